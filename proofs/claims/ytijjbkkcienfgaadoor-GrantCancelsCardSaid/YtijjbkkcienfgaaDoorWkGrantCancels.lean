/- The walk of the law GrantCancels: who cancels waits no more. Premises: the whole range and the table of kinds lie as laid. -/
import Derived.Test.YtijjbkkcienfgaaDoorProg
import Derived.Test.YtijjbkkcienfgaaDoorGr24
namespace Go.Proofs.YtijjbkkcienfgaaDoor
open Go.RowKit
set_option linter.unusedVariables false
set_option linter.unusedSimpArgs false
attribute [local go_sem ↓] Go.wp_at_zero Go.wp_at_succ

set_option maxRecDepth 100000 in
set_option maxHeartbeats 4000000 in
theorem grantCancels_walk (W : World) (t0 : Whole W) (t1 : Kd W) (v0 : Value) (c0 : CellOk W (.sl [.int .i64, .int .i64, .int .i64, .int .i64, .int .i64, .int .i64, .int .i64, .int .i64, .int .i64]) v0)
    (a1 : Int) (w1 : (Lit.int .i64 a1).wf = true) :
    Calls Tryd.prog 9 #[v0, .int .i64 a1] W fun e w' => e = .returned (.bool true) ∧ Below W.heap.size W w' := by
  obtain ⟨p0, n, cap0, f, rfl, hn, hcap, hA⟩ := cmdArg_of c0
  clear c0 w1
  have HT := Lib.hid (And.intro t0 t1)
  have HA := Lib.hid hA
  clear t0 t1 hA
  by_cases h40 : 30 < n
  · have hi : (30 : Int) < (n : Int) := by omega
    go_enter Tryd.func9, Tryd.ntmps9
    go_wp2_with (go_at_call 12; refine (shown_calls _ HT.out.1 HT.out.2).mono ?_; rintro e w' ⟨rfl, m⟩)
    go_ret
    exact ⟨rfl, m.below (Nat.le_refl _) (by simp)⟩
  have h5 : decide (30 < n) = false := by simpa using h40
  go_enter Tryd.func9, Tryd.ntmps9
  go_wp2_with fail
  refine (shown_calls _ HT.out.1 HT.out.2).mono ?_
  rintro e z2 ⟨rfl, m2⟩
  have HB := Lib.hid (begun_calls z2 (Sv.whole_mod HT.out.1 m2 (by simp)) (HT.out.2.mod m2 (by simp)))
  have M2 := Lib.hid m2
  clear m2
  go_wp2_with fail
  refine HB.out.mono ?_
  rintro e w1 ⟨sv, bT, bB, mB, v, rfl, l1⟩
  have L1 := Lib.hid l1
  clear l1 HB
  go_wp2
  go_loopw [6] (fun i wr => ∃ (k : Nat) (v : Value), k ≤ n ∧ i = .int .i64 k ∧ LawS z2 wr z2.heap.size sv bT bB mB v (runC (bg 4) f k)) (fun i _ => n - (intOf i).toNat)
  case atStart => exact ⟨0, _, Nat.zero_le _, rfl, L1.out⟩
  case round =>
    obtain ⟨k, v, hk, rfl, hI⟩ := hrel
    by_cases hlt : k < n
    · have i0 : (0 : Int) ≤ (k : Int) := by omega
      have i1 : (k : Int) < (n : Int) := by omega
      obtain ⟨b, off, rfl, y0, y1, y2, y3, y4, y5, y6, y7, y8⟩ := cmdArg_at HA.out (M2.out.trans hI.m) hlt
      have C := Lib.hid (doL_calls z2 wr z2.heap.size sv bT bB mB v (runC (bg 4) f k) (cm f k) hI)
      clear hI
      go_wp2_with fail
      refine C.out.mono ?_
      rintro e w2 ⟨gp, gc, rp, rc, dp, dc, v', rfl, o1, o2, o3, s2, hv, m2⟩
      have S2 := Lib.hid s2
      clear o1 o2 o3 s2 hv m2 y0 y1 y2 y3 y4 y5 y6 y7 y8
      go_wp2
      go_roundw
      case rel => exact ⟨k + 1, v', by omega, by go_num, S2.out⟩
      case measure => simp [intOf]; omega
    · obtain rfl : k = n := by omega
      have hlt' : decide (k < k) = false := by simp
      obtain ⟨x, hx⟩ : ∃ x, x = runC (bg 4) f k := ⟨_, rfl⟩
      rw [← hx] at hI
      have hinv : GInv x := by rw [hx]; exact runC_inv (bg_inv 4) f k
      have HINV := Lib.hid hinv
      have WC := Lib.hid (waits_calls wr z2.heap.size sv bT bB mB v x hI.s)
      have HI := Lib.hid hI
      clear hI hx hinv L1 HA h40 h5
      go_wp2_with fail
      refine WC.out.mono ?_
      rintro e wb ⟨vq, rfl, oq, mq⟩
      obtain ⟨pq, cq, hcq1, hcq2, hq⟩ : ∃ pq cq, vq = .slice pq x.wl.length cq ∧ x.wl.length ≤ cq ∧ (0 < x.wl.length → ∃ g, pq = some ⟨g, 0, none⟩ ∧ ∀ i y, x.wl[i]? = some y → wb.cell? ⟨g, i * 4 + 2, none⟩ = some (.int .i64 y.2.2.1)) := by
        obtain ⟨p, cap, e, h1, h2, h3⟩ := own_holds' oq
        exact ⟨p, cap, e, h1, fun h => by obtain ⟨g, e, _, _, hx⟩ := h3 h; exact ⟨g, e, fun i y hi => (hx i y hi).2.2.1⟩⟩
      subst hcq1
      have LB := Lib.hid (HI.out.mod0 mq)
      have OQ := Lib.hid oq
      have HQN := Lib.hid (show ∀ k, (Value.slice pq x.wl.length cq).ownBlock = some k → k ∉ SvS sv bT bB mB v from fun k hk => sv_ne HI.out.s (own_lt' oq k hk).1)
      have HQ := Lib.hid hq
      have hlen := HINV.out.len
      clear oq mq hq WC HI
      go_wp2
      go_loop [9, 8] (fun i s => ∃ (k : Nat), k ≤ x.wl.length ∧ i = .int .i64 k ∧ s = .bool ((x.wl.take k).any fun o => decide ((o.2.2.1 : Int) = a1))) (fun i _ => x.wl.length - (intOf i).toNat)
      case atStart => exact ⟨0, Nat.zero_le _, rfl, rfl⟩
      case round =>
        obtain ⟨k, hk, rfl, rfl⟩ := hrel
        by_cases hlt : k < x.wl.length
        · obtain ⟨g, rfl, hx⟩ := HQ.out (by omega)
          obtain ⟨y, hy⟩ : ∃ y, x.wl[k]? = some y := ⟨_, List.getElem?_eq_getElem hlt⟩
          have y2 := hx k y hy
          have ET := Lib.hid (any_take (fun o => decide ((o.2.2.1 : Int) = a1)) hy)
          have i0 : (0 : Int) ≤ (k : Int) := by omega
          have i1 : (k : Int) < (x.wl.length : Int) := by omega
          generalize (x.wl.take k).any (fun o => decide ((o.2.2.1 : Int) = a1)) = q at *
          clear hx
          cases q with
          | true =>
            go_wp2
            go_round
            case rel => exact ⟨k + 1, by omega, by go_num, by rw [ET.out]; rfl⟩
            case measure => simp [intOf]; omega
          | false =>
            by_cases hc : (y.2.2.1 : Int) = a1
            · have hc1 : ((y.2.2.1 : Int) == a1) = true := by simpa using hc
              have e := Lib.hid (decide_eq_true hc)
              clear hc
              go_wp2
              go_round
              case rel => exact ⟨k + 1, by omega, by go_num, by rw [ET.out, e.out]; rfl⟩
              case measure => simp [intOf]; omega
            · have hc1 : ((y.2.2.1 : Int) == a1) = false := by simpa using hc
              have e := Lib.hid (decide_eq_false hc)
              clear hc
              go_wp2
              go_round
              case rel => exact ⟨k + 1, by omega, by go_num, by rw [ET.out, e.out]; rfl⟩
              case measure => simp [intOf]; omega
        · obtain rfl : k = x.wl.length := by omega
          have hlt' : decide ((x.wl.length : Int) < (x.wl.length : Int)) = false := by simp
          rw [List.take_length]
          obtain ⟨q, hqq⟩ : ∃ q : Bool, q = x.wl.any fun o => decide ((o.2.2.1 : Int) = a1) := ⟨_, rfl⟩
          rw [← hqq]
          have HQQ := Lib.hid hqq
          clear hqq
          have C := doL_calls z2 wb z2.heap.size sv bT bB mB v x ⟨8, a1, 0, 0, 0, 0, 0, 0, 0⟩ LB.out
          rw [do8 x rfl] at C
          have HC := Lib.hid C
          clear C
          go_wp2_with fail
          refine HC.out.mono ?_
          rintro e w5 ⟨gp, gc, rp, rc, dp, dc, v', rfl, o1, o2, o3, s5, hv5, m5⟩
          have nq : ∀ k, (Value.slice pq x.wl.length cq).ownBlock = some k → k ∉ SvS sv bT bB mB v := fun k hk => HQN.out k hk
          have Q5 := own_mod OQ.out m5 nq
          clear HC
          generalize hy0 : x.cancel ⟨8, a1, 0, 0, 0, 0, 0, 0, 0⟩ = y at *
          have hy := hy0.symm
          clear hy0
          obtain ⟨ye, hye⟩ : ∃ ye, ye = y.2.e := ⟨_, rfl⟩
          obtain ⟨yn, hyn⟩ : ∃ yn, yn = y.2.n := ⟨_, rfl⟩
          obtain ⟨yg, hyg⟩ : ∃ yg, yg = y.2.g.length := ⟨_, rfl⟩
          obtain ⟨yr, hyr⟩ : ∃ yr, yr = y.2.r.length := ⟨_, rfl⟩
          obtain ⟨yz, hyz⟩ : ∃ yz, yz = y.2.z.length := ⟨_, rfl⟩
          rw [← hye, ← hyn, ← hyg, ← hyr, ← hyz]
          obtain ⟨w6, hw6⟩ : ∃ w6, w6 = w5.alloc (.cells #[.int .i64 ye, .int .i64 yn, .slice gp yg gc, .slice rp yr rc, .slice dp yz dc] 34) := ⟨_, rfl⟩
          have m6 : Mod [] w5 w6 := by rw [hw6]; exact (Mod.refl _ _).alloc _
          have A6 : Arr w6 w5.heap.size 34 5 (ansF ye yn (.slice gp yg gc) (.slice rp yr rc) (.slice dp yz dc)) := by rw [hw6]; exact ans_new _ _ _ _ _ _
          have HW6 := Lib.hid hw6
          have WC := Lib.hid (waits_calls w6 z2.heap.size sv bT bB mB v' y.1 (s5.s.mod0 m6))
          have M6 := Lib.hid (s5.m.trans m6)
          have Q6 := Lib.hid (own_mod Q5 m6 (by simp))
          have HA6 := Lib.hid A6
          have HY := Lib.hid (And.intro hy (And.intro hye hyg))
          clear o1 o2 o3 s5 hv5 m5 nq m6 A6 hy hye hyn hyg hyr hyz hw6 Q5
          go_wp2_with fail
          rw [← HW6.out]
          refine WC.out.mono ?_
          rintro e w7 ⟨vn, rfl, on, mn⟩
          obtain ⟨pn, cn, hcn1, hcn2, hn7⟩ : ∃ pn cn, vn = .slice pn y.1.wl.length cn ∧ y.1.wl.length ≤ cn ∧ (0 < y.1.wl.length → ∃ g, pn = some ⟨g, 0, none⟩ ∧ ∀ i z, y.1.wl[i]? = some z → w7.cell? ⟨g, i * 4 + 2, none⟩ = some (.int .i64 z.2.2.1)) := by
            obtain ⟨p, cap, e, h1, h2, h3⟩ := own_holds' on
            exact ⟨p, cap, e, h1, fun h => by obtain ⟨g, e, _, _, hx⟩ := h3 h; exact ⟨g, e, fun i y hi => (hx i y hi).2.2.1⟩⟩
          subst hcn1
          have A7 := HA6.out.mod mn (by simp)
          have k0 := A7.cell 0 (by omega)
          have k2 := A7.cell 2 (by omega)
          simp only [ansF, if_true, if_false, Nat.reduceEqDiff] at k0 k2
          have M7 := Lib.hid ((M2.out.trans M6.out).trans mn)
          have SM := Lib.hid (hs_own on)
          have SQ := Lib.hid (hs_own (own_mod Q6.out mn (by simp)))
          have HN7 := Lib.hid hn7
          clear on mn A7 hn7 HW6 WC
          cases q with
          | false =>
            obtain ⟨e1, e2, e3⟩ := cancel_none (c := ⟨8, a1, 0, 0, 0, 0, 0, 0, 0⟩) HINV.out HQQ.out.symm
            rw [← HY.out.1] at e1 e2 e3
            rw [← HY.out.2.1] at e2 e3
            rw [e1] at SM
            have SC := Lib.hid (same_calls w7 _ _ x.wl x.wl SM.out SQ.out)
            have CL := Lib.hid (rclient_calls w7 a1)
            have E1 := Lib.hid e1
            clear e1
            by_cases h3 : ye = 3
            · subst h3
              clear e3 e2
              rw [E1.out]
              go_wp2_with (go_at_call 24; refine SC.out.mono ?_; rintro e w8 ⟨rfl, m8⟩)
              go_ret
              exact ⟨by simp, (M7.out.trans m8).below (Nat.le_refl _) (by simp)⟩
            · obtain ⟨e4, e5⟩ := e3.resolve_left h3
              subst e4
              have h3' : ((1 : Int) == 3) = false := rfl
              simp only at e5
              rw [e5] at CL
              clear e2 h3 e5 e3
              rw [E1.out]
              go_wp2_with (first
                | (go_at_call 18; refine CL.out.mono ?_; rintro e w8 ⟨rfl, rfl⟩)
                | (go_at_call 24; refine SC.out.mono ?_; rintro e w8 ⟨rfl, m8⟩))
              go_ret
              exact ⟨by simp, (M7.out.trans m8).below (Nat.le_refl _) (by simp)⟩
          | true =>
            obtain ⟨e1, e2, e3⟩ := cancel_some (c := ⟨8, a1, 0, 0, 0, 0, 0, 0, 0⟩) HINV.out HQQ.out.symm
            rw [← HY.out.1] at e1 e2 e3
            rw [← HY.out.2.1] at e1
            rw [← HY.out.2.2] at e3
            subst e1
            have hsum : (y.1.wl.length : Int) + (yg : Int) + 1 = (x.wl.length : Int) := by omega
            have HE2 := Lib.hid e2
            clear e2 e3
            go_wp2
            go_loop [12] (fun i => ∃ (k : Nat), k ≤ y.1.wl.length ∧ i = .int .i64 k) (fun i => y.1.wl.length - (intOf i).toNat)
            case atStart => exact ⟨0, Nat.zero_le _, rfl⟩
            case round =>
              obtain ⟨k, hk, rfl⟩ := hrel
              by_cases hlt : k < y.1.wl.length
              · obtain ⟨g, rfl, hx⟩ := HN7.out (by omega)
                obtain ⟨z, hz⟩ : ∃ z, y.1.wl[k]? = some z := ⟨_, List.getElem?_eq_getElem hlt⟩
                have y2 := hx k z hz
                have i0 : (0 : Int) ≤ (k : Int) := by omega
                have i1 : (k : Int) < (y.1.wl.length : Int) := by omega
                have hc1 : ((z.2.2.1 : Int) == a1) = false := by
                  have := HE2.out z (List.mem_of_getElem? hz)
                  simpa using this
                clear hx
                go_wp2
                go_round
                case rel => exact ⟨k + 1, by omega, by go_num⟩
                case measure => simp [intOf]; omega
              · obtain rfl : k = y.1.wl.length := by omega
                have hlt' : decide ((y.1.wl.length : Int) < (y.1.wl.length : Int)) = false := by simp
                have hs2 : ((y.1.wl.length : Int) + (yg : Int) + 1 == (x.wl.length : Int)) = true := by simpa using hsum
                have hw1 : IntKind.i64.wrap ((y.1.wl.length : Int) + (yg : Int)) = (y.1.wl.length : Int) + (yg : Int) := by rw [IntKind.wrap_i64]; omega
                have hw2 : IntKind.i64.wrap ((y.1.wl.length : Int) + (yg : Int) + 1) = (y.1.wl.length : Int) + (yg : Int) + 1 := by rw [IntKind.wrap_i64]; omega
                go_wp2
                go_ret
                exact ⟨by simp, M7.out.below (Nat.le_refl _) (by simp)⟩
end Go.Proofs.YtijjbkkcienfgaaDoor
