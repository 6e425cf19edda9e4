/- The walk of the law GrantApart: no two holds clash, numbers rise, nobody waits twice. Premises: the whole range and the table of kinds lie as laid. -/
import Derived.Test.YtijjbkkcienfgaaDoorProg
import Derived.Test.YtijjbkkcienfgaaDoorGrP
namespace Go.Proofs.YtijjbkkcienfgaaDoor
open Go.RowKit
set_option linter.unusedVariables false
set_option linter.unusedSimpArgs false
attribute [local go_sem ↓] Go.wp_at_zero Go.wp_at_succ

set_option maxRecDepth 100000 in
set_option maxHeartbeats 8000000 in
theorem grantApart_walk (W : World) (t0 : Whole W) (t1 : Kd W) (v0 : Value) (c0 : CellOk W (.sl [.int .i64, .int .i64, .int .i64, .int .i64, .int .i64, .int .i64, .int .i64, .int .i64, .int .i64]) v0) :
    Calls Tryd.prog 6 #[v0] W fun e w' => e = .returned (.bool true) ∧ Below W.heap.size W w' := by
  obtain ⟨p0, n, cap0, f, rfl, hn, hcap, hA⟩ := cmdArg_of c0
  clear c0
  have HT := Lib.hid (And.intro t0 t1)
  have HA := Lib.hid hA
  clear t0 t1 hA
  by_cases h40 : 40 < n
  · have hi : (40 : Int) < (n : Int) := by omega
    go_enter Tryd.func6, Tryd.ntmps6
    go_wp2_with (go_at_call 12; refine (shown_calls _ HT.out.1 HT.out.2).mono ?_; rintro e w' ⟨rfl, m⟩)
    go_ret
    exact ⟨rfl, m.below (Nat.le_refl _) (by simp)⟩
  have h5 : decide (40 < n) = false := by simpa using h40
  go_enter Tryd.func6, Tryd.ntmps6
  go_wp2_with fail
  refine (shown_calls _ HT.out.1 HT.out.2).mono ?_
  rintro e z2 ⟨rfl, m2⟩
  have HB := Lib.hid (begun_calls z2 (Sv.whole_mod HT.out.1 m2 (by simp)) (HT.out.2.mod m2 (by simp)))
  have M2 := Lib.hid m2
  clear m2
  go_wp2_with fail
  refine HB.out.mono ?_
  rintro e w1 ⟨sv, bT, bB, mB, v, rfl, l1⟩
  have L1 := Lib.hid l1
  clear l1 HB
  go_wp2
  go_loopw [5, 4] (fun i s wr => ∃ (k : Nat) (v : Value), k ≤ n ∧ i = .int .i64 k ∧ s = .int .i64 ((runC (bg 4) f k).last : Nat) ∧ LawS z2 wr z2.heap.size sv bT bB mB v (runC (bg 4) f k)) (fun i _ _ => n - (intOf i).toNat)
  case atStart => exact ⟨0, _, Nat.zero_le _, rfl, by rw [show runC (bg 4) f 0 = bg 4 from rfl, bg_last]; rfl, L1.out⟩
  case round =>
    obtain ⟨k, v, hk, rfl, rfl, hI⟩ := hrel
    by_cases hlt : k < n
    · have i0 : (0 : Int) ≤ (k : Int) := by omega
      have i1 : (k : Int) < (n : Int) := by omega
      obtain ⟨b, off, rfl, y0, y1, y2, y3, y4, y5, y6, y7, y8⟩ := cmdArg_at HA.out (M2.out.trans hI.m) hlt
      have C := doL_calls z2 wr z2.heap.size sv bT bB mB v (runC (bg 4) f k) (cm f k) hI
      have I1 := Lib.hid (runC_inv (bg_inv 4) f (k + 1))
      have P1 := Lib.hid (pinv_run (pinv_bg 4) f (k + 1))
      have EX := Lib.hid (show runC (bg 4) f (k + 1) = ((runC (bg 4) f k).Do (cm f k)).1 from rfl)
      obtain ⟨q, hq⟩ : ∃ q : Bool, q = (decide ((cm f k).k = 1) && decide (((runC (bg 4) f k).Do (cm f k)).2.e = 0)) := ⟨_, rfl⟩
      have NA := nums_all (runC (bg 4) f k) (cm f k) q hq
      rw [show runC (bg 4) f (k + 1) = ((runC (bg 4) f k).Do (cm f k)).1 from rfl] at I1 P1
      have y0x := fun w (m : Mod [] W w) => (cmdArg_at HA.out m hlt)
      have HY := Lib.hid y0x
      generalize hy : (runC (bg 4) f k).Do (cm f k) = y at *
      obtain ⟨ls, hls⟩ : ∃ ls, ls = (runC (bg 4) f k).last := ⟨_, rfl⟩
      rw [← hls] at NA ⊢
      have HC := Lib.hid C
      have HNA := Lib.hid NA
      have HQ := Lib.hid hq
      clear hI C NA hq y0x hls
      go_wp2_with fail
      refine HC.out.mono ?_
      rintro e w2 ⟨gp, gc, rp, rc, dp, dc, v', rfl, o1, o2, o3, s2, hv, m2⟩
      have A2 := ans_new w2 y.2.e y.2.n (.slice gp y.2.g.length gc) (.slice rp y.2.r.length rc) (.slice dp y.2.z.length dc)
      have a0 := A2.cell 0 (by omega)
      have a1 := A2.cell 1 (by omega)
      have a2 := A2.cell 2 (by omega)
      simp only [ansF, if_true, if_false, Nat.reduceEqDiff] at a0 a1 a2
      obtain ⟨bb, boff, hbb, x0, -⟩ := HY.out (w2.alloc (.cells #[.int .i64 y.2.e, .int .i64 y.2.n, .slice gp y.2.g.length gc, .slice rp y.2.r.length rc, .slice dp y.2.z.length dc] 34)) ((M2.out.trans s2.m).alloc _)
      injection hbb with hbb
      injection hbb with hb1 hb2
      subst hb1 hb2
      obtain ⟨w6, hw6⟩ : ∃ w6, w6 = w2.alloc (.cells #[.int .i64 y.2.e, .int .i64 y.2.n, .slice gp y.2.g.length gc, .slice rp y.2.r.length rc, .slice dp y.2.z.length dc] 34) := ⟨_, rfl⟩
      have m6 : Mod [] w2 w6 := by rw [hw6]; exact (Mod.refl _ _).alloc _
      rw [← hw6] at A2 a0 a1 a2 x0
      have S6 := Lib.hid (s2.mod0 m6)
      have HA6 := Lib.hid A2
      obtain ⟨gc1, gc2, gx⟩ := own_grants o1 rfl
      have HG := Lib.hid (fun i x (hx : y.2.g[i]? = some x) => show ∃ g, gp = some ⟨g, 0, none⟩ ∧ w6.cell? ⟨g, i * 5, none⟩ = some (.int .i64 (x.1 : Nat)) by
        obtain ⟨g, e, _, h⟩ := gx (by have := (List.getElem?_eq_some_iff.1 hx).1; omega)
        exact ⟨g, e, m6.cell' (h i x hx).1 (by simp)⟩)
      have HW6 := Lib.hid hw6
      obtain ⟨yk, hyk⟩ : ∃ yk, yk = (cm f k).k := ⟨_, rfl⟩
      have hsz2 : w2.heap.size < w6.heap.size := A2.lt
      rw [← hyk] at x0 HQ
      clear y0 y1 y2 y3 y4 y5 y6 y7 y8 o1 o2 o3 s2 hv m2 m6 A2 hw6 gx HC hyk
      obtain ⟨ye, hye⟩ : ∃ ye, ye = y.2.e := ⟨_, rfl⟩
      obtain ⟨yn, hyn⟩ : ∃ yn, yn = y.2.n := ⟨_, rfl⟩
      have HYE := Lib.hid hye
      have HYN := Lib.hid hyn
      rw [← hye] at a0 HQ HW6 ⊢
      rw [← hyn] at a1 HW6 ⊢
      clear hye hyn
      go_upto_region 9 with (fail)
      rw [← HW6.out]
      go_cut [45] (fun s wx => s = .bool q ∧ wx = w6)
      case first =>
        by_cases k1 : yk = 1
        · by_cases e1 : ye = 0
          · have e := Lib.hid (show q = true by rw [HQ.out]; simp [k1, e1])
            subst k1 e1
            go_wp2
            go_meet
            exact ⟨by rw [e.out], rfl⟩
          · have e := Lib.hid (show q = false by rw [HQ.out]; simp [e1])
            have e1' : (ye == 0) = false := by simpa using e1
            subst k1
            go_wp2
            go_meet
            exact ⟨by rw [e.out], rfl⟩
        · have e := Lib.hid (show q = false by rw [HQ.out]; simp [k1])
          have k1' : (yk == 1) = false := by simpa using k1
          go_wp2
          go_meet
          exact ⟨by rw [e.out], rfl⟩
      case rest =>
        obtain ⟨rfl, hwc⟩ := hcut
        subst wc
        obtain ⟨a, ha⟩ : ∃ a : Nat, a = if q = true then 1 else 0 := ⟨_, rfl⟩
        obtain ⟨n1, n2, n3⟩ := HNA.out
        rw [← ha] at n1 n3
        have HN1 := Lib.hid n1
        have HN3 := Lib.hid n3
        have HN2 := Lib.hid n2
        have HAA := Lib.hid ha
        clear n1 n2 n3 ha
        go_upto_if 45 with (fail)
        go_cut [4] (fun s wx => s = .int .i64 ((ls + a : Nat) : Int) ∧ wx = w6)
        case first =>
          cases q with
          | true =>
            have e : yn = (ls : Int) + 1 := by rw [HYN.out]; exact HN2.out rfl
            have e2 := Lib.hid (show a = 1 by rw [HAA.out]; rfl)
            have hb : ls ≤ 1099511627776 := by have := I1.out.last; have := HN1.out; unfold maxS at *; omega
            have hwr : IntKind.i64.wrap ((ls : Int) + 1) = (ls : Int) + 1 := by rw [IntKind.wrap_i64]; omega
            subst e
            go_wp2
            go_meet
            exact ⟨by rw [e2.out]; rfl, rfl⟩
          | false =>
            have e2 := Lib.hid (show a = 0 by rw [HAA.out]; rfl)
            go_wp2
            go_meet
            exact ⟨by rw [e2.out]; rfl, rfl⟩
        case rest =>
          obtain ⟨rfl, hwc⟩ := hcut
          subst wc
          obtain ⟨gl, hgl⟩ : ∃ gl, gl = y.2.g.length := ⟨_, rfl⟩
          have hb : ls + a + gl ≤ 1099511627776 := by have := I1.out.last; have := HN1.out; rw [← hgl] at this; unfold maxS at *; omega
          rw [← hgl] at a2
          have HGL := Lib.hid hgl
          have gc1' : gl ≤ gc := by rw [hgl]; exact gc1
          clear a0 a1 x0 hgl gc1
          go_wp2
          go_loop [7, 4] (fun i s => ∃ m : Nat, m ≤ gl ∧ i = .int .i64 m ∧ s = .int .i64 ((ls + a + m : Nat) : Int)) (fun i _ => gl - (intOf i).toNat)
          case atStart => exact ⟨0, Nat.zero_le _, rfl, rfl⟩
          case round =>
            obtain ⟨m, hm, rfl, rfl⟩ := hrel
            by_cases hlm : m < gl
            · obtain ⟨x, hx⟩ : ∃ x, y.2.g[m]? = some x := ⟨_, List.getElem?_eq_getElem (by rw [← HGL.out]; exact hlm)⟩
              obtain ⟨g, rfl, hc⟩ := HG.out m x hx
              have e := HN3.out m x hx
              rw [e] at hc
              have j0 : (0 : Int) ≤ (m : Int) := by omega
              have j1 : (m : Int) < (gl : Int) := by omega
              have hwr : IntKind.i64.wrap (((ls + a + m : Nat) : Int) + 1) = ((ls + a + m + 1 : Nat) : Int) := by rw [IntKind.wrap_i64]; omega
              generalize hz9 : ls + a + m + 1 = z at *
              have HZ9 := Lib.hid hz9
              clear e hx hz9
              generalize hz : ((ls + a + m : Nat) : Int) = zz at *
              go_wp2
              go_round
              case rel => exact ⟨m + 1, by omega, by go_num, by rw [← HZ9.out]; rfl⟩
              case measure => simp [intOf]; omega
            · obtain rfl : m = gl := by omega
              have hlm' : decide ((m : Int) < (m : Int)) = false := by simp
              have HO := Lib.hid (holds_calls w6 z2.heap.size sv bT bB mB v' y.1 S6.out.s)
              obtain ⟨L, hL⟩ : ∃ L, L = listL y.1.t := ⟨_, rfl⟩
              rw [← hL] at HO
              have NC := Lib.hid (show ∀ (i j : Nat) (a b : HoldT), j < i → L[j]? = some a → L[i]? = some b → clashB b a = false from fun i j a b hj ha hb => no_clash P1.out hj (by rw [← hL]; exact ha) (by rw [← hL]; exact hb))
              have HLS := Lib.hid (show ls + a + m = y.1.last by rw [HN1.out, HGL.out])
              clear hL
              go_wp2_with fail
              refine HO.out.mono ?_
              rintro e w8 ⟨v8, rfl, o8, m8⟩
              obtain ⟨p8, c8, rfl, l1, l2, hx8⟩ := own_holds' o8
              have HX8 := Lib.hid hx8
              have S8 := Lib.hid (S6.out.mod0 m8)
              clear o8 m8 hx8 HO a2
              go_wp2
              go_loopw [9] (fun i wr => ∃ j : Nat, j ≤ L.length ∧ i = .int .i64 j ∧ Mod [] w8 wr) (fun i _ => L.length - (intOf i).toNat)
              case atStart => exact ⟨0, Nat.zero_le _, rfl, Mod.refl _ _⟩
              case round =>
                obtain ⟨j, hj, rfl, hM⟩ := hrel
                generalize wr = wq at *
                by_cases hlj : j < L.length
                · have j0 : (0 : Int) ≤ (j : Int) := by omega
                  have j1 : (j : Int) < (L.length : Int) := by omega
                  have HM := Lib.hid hM
                  clear hM
                  go_wp2
                  go_loopw [10] (fun i wr => ∃ q : Nat, q ≤ j ∧ i = .int .i64 q ∧ Mod [] w8 wr) (fun i _ => j - (intOf i).toNat)
                  case atStart => exact ⟨0, Nat.zero_le _, rfl, HM.out⟩
                  case round =>
                    obtain ⟨r, hr, rfl, hM⟩ := hrel
                    by_cases hlr : r < j
                    · obtain ⟨b, hb⟩ : ∃ b, L[j]? = some b := ⟨_, List.getElem?_eq_getElem hlj⟩
                      obtain ⟨d, hd⟩ : ∃ d, L[r]? = some d := ⟨_, List.getElem?_eq_getElem (by omega)⟩
                      obtain ⟨g, rfl, _, _, hc⟩ := HX8.out (by omega)
                      obtain ⟨b0, b1, b2, b3⟩ := hc j b hb
                      obtain ⟨d0, d1, d2, d3⟩ := hc r d hd
                      have mm := hM.drew
                      replace b0 := mm.cell' b0 (by simp)
                      replace b1 := mm.cell' b1 (by simp)
                      replace b2 := mm.cell' b2 (by simp)
                      replace b3 := mm.cell' b3 (by simp)
                      replace d0 := mm.cell' d0 (by simp)
                      replace d1 := mm.cell' d1 (by simp)
                      replace d2 := mm.cell' d2 (by simp)
                      replace d3 := mm.cell' d3 (by simp)
                      have r0 : (0 : Int) ≤ (r : Int) := by omega
                      have r1 : (r : Int) < (j : Int) := by omega
                      have r2 : (r : Int) < (L.length : Int) := by omega
                      have CL := rclash_calls wr.drew b d
                      rw [NC.out j r d b hlr hd hb] at CL
                      have HCL := Lib.hid CL
                      have HM2 := Lib.hid hM
                      clear CL hc mm hM hb hd
                      go_wp2
                      first
                        | (go_region_with (first
                          | (go_at_call 28; (with_reducible refine HCL.out.mono ?_); rintro e w9 ⟨rfl, m9⟩)))
                        | fail
                      all_goals
                        have M9 := Lib.hid (HM2.out.trans (Mod.of_drew m9))
                        clear m9 b0 b1 b2 b3 d0 d1 d2 d3
                        go_wp2
                        go_roundw
                        case rel => exact ⟨r + 1, by omega, by go_num, M9.out⟩
                        case measure => simp [intOf]; omega
                    · obtain rfl : r = j := by omega
                      have hlr' : decide ((r : Int) < (r : Int)) = false := by simp
                      have HM2 := Lib.hid hM
                      clear hM
                      go_wp2
                      go_roundw
                      case rel => exact ⟨r + 1, by omega, by go_num, HM2.out⟩
                      case measure => simp [intOf]; omega
                · obtain rfl : j = L.length := by omega
                  have hlj' : decide ((L.length : Int) < (L.length : Int)) = false := by simp
                  have S9 := Lib.hid (S8.out.mod0 hM)
                  clear hM
                  have HO := Lib.hid (waits_calls wq z2.heap.size sv bT bB mB v' y.1 S9.out.s)
                  obtain ⟨L2, hL2⟩ : ∃ L2, L2 = y.1.wl := ⟨_, rfl⟩
                  rw [← hL2] at HO
                  have NT := Lib.hid (show ∀ (i j : Nat) (a b : HoldT), j < i → L2[j]? = some a → L2[i]? = some b → b.2.2.1 ≠ a.2.2.1 from fun i j a b hj ha hb => no_twice I1.out hj (by rw [← hL2]; exact ha) (by rw [← hL2]; exact hb))
                  clear hL2 HX8
                  go_wp2_with fail
                  refine HO.out.mono ?_
                  rintro e wa ⟨va, rfl, oa, ma⟩
                  obtain ⟨pa, ca, rfl, l3, l4, hxa⟩ := own_holds' oa
                  have HXA := Lib.hid hxa
                  have SA := Lib.hid (S9.out.mod0 ma)
                  clear oa ma hxa HO
                  go_wp2
                  go_loopw [12] (fun i wr => ∃ j : Nat, j ≤ L2.length ∧ i = .int .i64 j ∧ Mod [] wa wr) (fun i _ => L2.length - (intOf i).toNat)
                  case atStart => exact ⟨0, Nat.zero_le _, rfl, Mod.refl _ _⟩
                  case round =>
                    obtain ⟨j, hj, rfl, hM⟩ := hrel
                    generalize wr = wb at *
                    by_cases hlj : j < L2.length
                    · have j0 : (0 : Int) ≤ (j : Int) := by omega
                      have j1 : (j : Int) < (L2.length : Int) := by omega
                      have HM := Lib.hid hM
                      clear hM
                      go_wp2
                      go_loopw [13] (fun i wr => ∃ q : Nat, q ≤ j ∧ i = .int .i64 q ∧ Mod [] wa wr) (fun i _ => j - (intOf i).toNat)
                      case atStart => exact ⟨0, Nat.zero_le _, rfl, HM.out⟩
                      case round =>
                        obtain ⟨r, hr, rfl, hM⟩ := hrel
                        by_cases hlr : r < j
                        · obtain ⟨b, hb⟩ : ∃ b, L2[j]? = some b := ⟨_, List.getElem?_eq_getElem hlj⟩
                          obtain ⟨d, hd⟩ : ∃ d, L2[r]? = some d := ⟨_, List.getElem?_eq_getElem (by omega)⟩
                          obtain ⟨g, rfl, _, _, hc⟩ := HXA.out (by omega)
                          obtain ⟨_, _, b2, _⟩ := hc j b hb
                          obtain ⟨_, _, d2, _⟩ := hc r d hd
                          have mm := hM.drew
                          replace b2 := mm.cell' b2 (by simp)
                          replace d2 := mm.cell' d2 (by simp)
                          have r0 : (0 : Int) ≤ (r : Int) := by omega
                          have r1 : (r : Int) < (j : Int) := by omega
                          have r2 : (r : Int) < (L2.length : Int) := by omega
                          have ne := NT.out j r d b hlr hd hb
                          have ne1 : ((b.2.2.1 : Int) == (d.2.2.1 : Int)) = false := by simp; omega
                          have HM2 := Lib.hid mm
                          clear hc mm hM hb hd ne
                          go_wp2
                          first
                            | (go_region_with (fail))
                            | fail
                          all_goals
                            go_wp2
                            go_roundw
                            case rel => exact ⟨r + 1, by omega, by go_num, HM2.out⟩
                            case measure => simp [intOf]; omega
                        · obtain rfl : r = j := by omega
                          have hlr' : decide ((r : Int) < (r : Int)) = false := by simp
                          have HM2 := Lib.hid hM
                          clear hM
                          go_wp2
                          go_roundw
                          case rel => exact ⟨r + 1, by omega, by go_num, HM2.out⟩
                          case measure => simp [intOf]; omega
                    · obtain rfl : j = L2.length := by omega
                      have hlj' : decide ((L2.length : Int) < (L2.length : Int)) = false := by simp
                      have SB := Lib.hid (SA.out.mod0 hM)
                      clear hM
                      go_wp2
                      go_roundw
                      case rel => exact ⟨k + 1, v', by omega, by go_num, by rw [EX.out, ← HLS.out]; exact congrArg _ (by omega), by rw [EX.out]; exact SB.out⟩
                      case measure => simp [intOf]; omega
    · obtain rfl : k = n := by omega
      have hlt' : decide ((k : Int) < (k : Int)) = false := by simp
      have HM := Lib.hid (M2.out.trans hI.m)
      clear hI
      go_wp2
      go_ret
      exact ⟨rfl, HM.out.below (Nat.le_refl _) (by simp)⟩
end Go.Proofs.YtijjbkkcienfgaaDoor
