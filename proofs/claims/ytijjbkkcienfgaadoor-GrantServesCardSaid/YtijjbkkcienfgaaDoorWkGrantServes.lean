/- The walk of the law GrantServes: when all is released again and again, nothing waits any more. Premises: the whole range and the table of kinds lie as laid. -/
import Derived.Test.YtijjbkkcienfgaaDoorProg
import Derived.Test.YtijjbkkcienfgaaDoorGrS
namespace Go.Proofs.YtijjbkkcienfgaaDoor
open Go.RowKit
set_option linter.unusedVariables false
set_option linter.unusedSimpArgs false
attribute [local go_sem ↓] Go.wp_at_zero Go.wp_at_succ

set_option maxRecDepth 100000 in
set_option maxHeartbeats 8000000 in
theorem grantServes_walk (W : World) (t0 : Whole W) (t1 : Kd W) (v0 : Value) (c0 : CellOk W (.sl [.int .i64, .int .i64, .int .i64, .int .i64, .int .i64, .int .i64, .int .i64, .int .i64, .int .i64]) v0) :
    Calls Tryd.prog 7 #[v0] W fun e w' => e = .returned (.bool true) ∧ Below W.heap.size W w' := by
  obtain ⟨p0, n, cap0, f, rfl, hn, hcap, hA⟩ := cmdArg_of c0
  clear c0
  have HT := Lib.hid (And.intro t0 t1)
  have HA := Lib.hid hA
  clear t0 t1 hA
  by_cases h40 : 40 < n
  · have hi : (40 : Int) < (n : Int) := by omega
    go_enter Tryd.func7, Tryd.ntmps7
    go_wp2_with (go_at_call 12; refine (shown_calls _ HT.out.1 HT.out.2).mono ?_; rintro e w' ⟨rfl, m⟩)
    go_ret
    exact ⟨rfl, m.below (Nat.le_refl _) (by simp)⟩
  have h5 : decide (40 < n) = false := by simpa using h40
  go_enter Tryd.func7, Tryd.ntmps7
  go_wp2_with fail
  refine (shown_calls _ HT.out.1 HT.out.2).mono ?_
  rintro e z2 ⟨rfl, m2⟩
  have HB := Lib.hid (begun_calls z2 (Sv.whole_mod HT.out.1 m2 (by simp)) (HT.out.2.mod m2 (by simp)))
  have M2 := Lib.hid m2
  clear m2
  go_wp2_with fail
  refine HB.out.mono ?_
  rintro e w1 ⟨sv, bT, bB, mB, v, rfl, l1⟩
  have L1 := Lib.hid l1
  clear l1 HB
  go_wp2
  go_loopw [4] (fun i wr => ∃ (k : Nat) (v : Value), k ≤ n ∧ i = .int .i64 k ∧ LawS z2 wr z2.heap.size sv bT bB mB v (runC (bg 4) f k)) (fun i _ => n - (intOf i).toNat)
  case atStart => exact ⟨0, _, Nat.zero_le _, rfl, L1.out⟩
  case round =>
    obtain ⟨k, v, hk, rfl, hI⟩ := hrel
    by_cases hlt : k < n
    · have i0 : (0 : Int) ≤ (k : Int) := by omega
      have i1 : (k : Int) < (n : Int) := by omega
      obtain ⟨b, off, rfl, y0, y1, y2, y3, y4, y5, y6, y7, y8⟩ := cmdArg_at HA.out (M2.out.trans hI.m) hlt
      have C := Lib.hid (doL_calls z2 wr z2.heap.size sv bT bB mB v (runC (bg 4) f k) (cm f k) hI)
      clear hI
      go_wp2_with fail
      refine C.out.mono ?_
      rintro e w2 ⟨gp, gc, rp, rc, dp, dc, v', rfl, o1, o2, o3, s2, hv, m2⟩
      have S2 := Lib.hid s2
      clear o1 o2 o3 s2 hv m2 y0 y1 y2 y3 y4 y5 y6 y7 y8
      go_wp2
      go_roundw
      case rel => exact ⟨k + 1, v', by omega, by go_num, S2.out⟩
      case measure => simp [intOf]; omega
    · obtain rfl : k = n := by omega
      have hlt' : decide ((k : Int) < (k : Int)) = false := by simp
      have hx := run_scnd bg_scnd f k
      have HX := Lib.hid (show SCnd 44 (runC (bg 4) f k) from ⟨hx.inv, hx.bd, by have := hx.tu; omega, by have := hx.la; omega⟩)
      have HI := Lib.hid hI
      clear hI hx L1 HA
      go_wp2
      go_loopw [5] (fun i wr => ∃ (m : Nat) (v : Value) (x : GS), m ≤ 32 ∧ i = .int .i64 m ∧ SCnd 44 x ∧ x.wl.length + m ≤ 32 ∧ LawS z2 wr z2.heap.size sv bT bB mB v x) (fun i _ => 32 - (intOf i).toNat)
      case atStart => exact ⟨0, _, _, Nat.zero_le _, rfl, HX.out, HX.out.inv.len, HI.out⟩
      case round =>
        obtain ⟨m, v, x, hm, rfl, hc, hml, hI⟩ := hrel
        have HC := Lib.hid hc
        have WC := Lib.hid (fun w' (mm : Mod [] wr w') => waits_calls w' z2.heap.size sv bT bB mB v x (hI.s.mod0 mm))
        have HI := Lib.hid hI
        clear hc hI HX
        generalize wr = wq at *
        by_cases h32 : m < 32
        rotate_left
        · obtain rfl : m = 32 := by omega
          have e0 : x.wl.length = 0 := by omega
          go_wp2_with fail
          refine (WC.out _ (Mod.refl _ _)).mono ?_
          rintro e wa ⟨va, rfl, oa, ma⟩
          obtain ⟨pa, ca, rfl⟩ := own_len oa
          have M9 := Lib.hid ((M2.out.trans HI.out.m).trans ma)
          rw [e0]
          clear oa ma WC HC HI
          go_wp2
          go_ret
          exact ⟨rfl, M9.out.below (Nat.le_refl _) (by simp)⟩
        · have h32' : (m : Int) < 32 := by omega
          go_wp2_with fail
          refine (WC.out _ (Mod.refl _ _)).mono ?_
          rintro e wa ⟨va, rfl, oa, ma⟩
          obtain ⟨pa, ca, rfl⟩ := own_len oa
          have MA := Lib.hid ma
          clear oa ma
          by_cases h0 : x.wl.length = 0
          · have h0' : ¬ (0 : Int) < (x.wl.length : Int) := by omega
            go_wp2_with fail
            refine (WC.out _ MA.out).mono ?_
            rintro e wb ⟨vb, rfl, ob, mb⟩
            obtain ⟨pb, cb, rfl⟩ := own_len ob
            have M9 := Lib.hid (((M2.out.trans HI.out.m).trans MA.out).trans mb)
            rw [h0]
            clear ob mb WC HC HI
            go_wp2
            go_ret
            exact ⟨rfl, M9.out.below (Nat.le_refl _) (by simp)⟩
          · have h0' : (0 : Int) < (x.wl.length : Int) := by omega
            obtain ⟨h, r, hw⟩ : ∃ h r, x.wl = h :: r := by
              cases e : x.wl with
              | nil => rw [e] at h0; exact absurd rfl h0
              | cons h r => exact ⟨h, r, rfl⟩
            have ALL := Lib.hid (serves_all HC.out (by omega) hw)
            go_wp2_with fail
            refine (WC.out _ MA.out).mono ?_
            rintro e wb ⟨vb, rfl, ob, mb⟩
            obtain ⟨pb, cb, rfl, q1, q2, hxb⟩ := own_holds' ob
            obtain ⟨g, rfl, g1, g2, hxg⟩ := hxb (by omega)
            obtain ⟨x0, x1, x2, x3⟩ := hxg 0 h (by rw [hw]; rfl)
            simp only [Nat.zero_mul, Nat.zero_add] at x0 x1 x2 x3
            have HB := Lib.hid (HI.out.mod0 (MA.out.trans mb))
            have HROW := Lib.hid (show g ∉ SvS sv bT bB mB v ∧ g < wb.heap.size ∧ wb.cell? ⟨g, 0, none⟩ = some (.int .i64 h.1) ∧ wb.cell? ⟨g, 1, none⟩ = some (.int .i64 h.2.1) ∧ wb.cell? ⟨g, 2, none⟩ = some (.int .i64 h.2.2.1) ∧ wb.cell? ⟨g, 3, none⟩ = some (.int .i64 h.2.2.2) from ⟨sv_ne (HI.out.mod0 MA.out).s g1, g2, x0, x1, x2, x3⟩)
            clear ob mb hxb hxg WC HI x0 x1 x2 x3 g1 g2 MA
            go_wp2
            go_loopw [8, 7] (fun i s wr => ∃ (c : Nat) (v : Value), c ≤ 8 ∧ i = .int .i64 c ∧ s = .bool (givenB x h c) ∧ LawS z2 wr z2.heap.size sv bT bB mB v (relG x c) ∧ g ∉ SvS sv bT bB mB v ∧ g < wr.heap.size ∧ wr.cell? ⟨g, 0, none⟩ = some (.int .i64 h.1) ∧ wr.cell? ⟨g, 1, none⟩ = some (.int .i64 h.2.1) ∧ wr.cell? ⟨g, 2, none⟩ = some (.int .i64 h.2.2.1) ∧ wr.cell? ⟨g, 3, none⟩ = some (.int .i64 h.2.2.2)) (fun i _ _ => 8 - (intOf i).toNat)
            case atStart => exact ⟨0, _, Nat.zero_le _, rfl, rfl, HB.out, HROW.out⟩
            case round =>
              obtain ⟨c, v, hc, rfl, rfl, hI, hg, hgl, x0, x1, x2, x3⟩ := hrel
              by_cases hc8 : c < 8
              · have c8' : (c : Int) < 8 := by omega
                have C := doL_calls z2 wr z2.heap.size sv bT bB mB v (relG x c) (relC c) hI
                have EX := Lib.hid (show relG x (c + 1) = ((relG x c).Do (relC c)).1 from rfl)
                have EG := Lib.hid (show givenB x h (c + 1) = (givenB x h c || ((relG x c).Do (relC c)).2.g.any fun g => decide (g.2 = h)) from rfl)
                generalize (relG x c).Do (relC c) = y at *
                unfold relC at C
                simp only at C
                have HC2 := Lib.hid C
                have HX := Lib.hid (And.intro hg (And.intro hgl (And.intro x0 (And.intro x1 (And.intro x2 x3)))))
                clear C hI hg hgl x0 x1 x2 x3
                go_wp2_with fail
                refine HC2.out.mono ?_
                rintro e w2 ⟨gp, gc, rp, rc, dp, dc, v', rfl, o1, o2, o3, s2, hv, m2⟩
                have A2 := ans_new w2 y.2.e y.2.n (.slice gp y.2.g.length gc) (.slice rp y.2.r.length rc) (.slice dp y.2.z.length dc)
                obtain ⟨w6, hw6⟩ : ∃ w6, w6 = w2.alloc (.cells #[.int .i64 y.2.e, .int .i64 y.2.n, .slice gp y.2.g.length gc, .slice rp y.2.r.length rc, .slice dp y.2.z.length dc] 34) := ⟨_, rfl⟩
                have m6 : Mod [] w2 w6 := by rw [hw6]; exact (Mod.refl _ _).alloc _
                rw [← hw6] at A2
                obtain ⟨gc1, gc2, gx⟩ := own_grants o1 rfl
                obtain ⟨hg, hgl, x0, x1, x2, x3⟩ := HX.out
                have G6 := Lib.hid (And.intro (svS_next hv hg hgl) (show g < w6.heap.size by have := m2.size; have := m6.size; omega))
                have X6 := Lib.hid (show ∀ w', Mod [] w6 w' → w'.cell? ⟨w2.heap.size, 2, none⟩ = some (.slice gp y.2.g.length gc) ∧ w'.cell? ⟨g, 0, none⟩ = some (.int .i64 h.1) ∧ w'.cell? ⟨g, 1, none⟩ = some (.int .i64 h.2.1) ∧ w'.cell? ⟨g, 2, none⟩ = some (.int .i64 h.2.2.1) ∧ w'.cell? ⟨g, 3, none⟩ = some (.int .i64 h.2.2.2) from fun w' mm =>
                  have M := m6.trans mm
                  ⟨mm.cell' (A2.cell 2 (by omega)) (by simp), M.cell' (m2.cell' x0 hg) (by simp), M.cell' (m2.cell' x1 hg) (by simp), M.cell' (m2.cell' x2 hg) (by simp), M.cell' (m2.cell' x3 hg) (by simp)⟩)
                have HG := Lib.hid (fun i z (hz : y.2.g[i]? = some z) => show ∃ q, gp = some ⟨q, 0, none⟩ ∧ ∀ w', Mod [] w6 w' → w'.cell? ⟨q, i * 5 + 1, none⟩ = some (.int .i64 z.2.1) ∧ w'.cell? ⟨q, i * 5 + 2, none⟩ = some (.int .i64 z.2.2.1) ∧ w'.cell? ⟨q, i * 5 + 3, none⟩ = some (.int .i64 z.2.2.2.1) ∧ w'.cell? ⟨q, i * 5 + 4, none⟩ = some (.int .i64 z.2.2.2.2) by
                  obtain ⟨q, e, _, h⟩ := gx (by have := (List.getElem?_eq_some_iff.1 hz).1; omega)
                  obtain ⟨_, h1, h2, h3, h4⟩ := h i z hz
                  exact ⟨q, e, fun w' mm => have M := m6.trans mm
                    ⟨M.cell' h1 (by simp), M.cell' h2 (by simp), M.cell' h3 (by simp), M.cell' h4 (by simp)⟩⟩)
                have S6 := Lib.hid (s2.mod0 m6)
                have HW6 := Lib.hid hw6
                obtain ⟨gl, hgl2⟩ : ∃ gl, gl = y.2.g.length := ⟨_, rfl⟩
                rw [← hgl2] at X6 HW6 gc1 ⊢
                have HGL := Lib.hid hgl2
                clear o1 o2 o3 s2 hv m2 m6 A2 hw6 gx hg hgl x0 x1 x2 x3 HC2 hgl2
                generalize givenB x h c = gb at *
                go_upto_region 17 with (fail)
                rw [← HW6.out]
                go_wp2
                go_loopw [10, 7] (fun i s wr => ∃ q : Nat, q ≤ gl ∧ i = .int .i64 q ∧ s = .bool (gb || (y.2.g.take q).any fun g => decide (g.2 = h)) ∧ Mod [] w6 wr) (fun i _ _ => gl - (intOf i).toNat)
                case atStart => exact ⟨0, Nat.zero_le _, rfl, by simp, Mod.refl _ _⟩
                case round =>
                  obtain ⟨q, hq, rfl, rfl, hM⟩ := hrel
                  by_cases hlq : q < gl
                  · obtain ⟨z, hz⟩ : ∃ z, y.2.g[q]? = some z := ⟨_, List.getElem?_eq_getElem (by rw [← HGL.out]; exact hlq)⟩
                    obtain ⟨b, rfl, hb⟩ := HG.out q z hz
                    have ET := Lib.hid (any_take2 (fun g => decide (g.2 = h)) hz)
                    generalize (y.2.g.take q).any (fun g => decide (g.2 = h)) = an at *
                    have HM := Lib.hid hM
                    have q0 : (0 : Int) ≤ (q : Int) := by omega
                    have q1' : (q : Int) < (gl : Int) := by omega
                    obtain ⟨a2, x0, x1, x2, x3⟩ := X6.out _ hM
                    obtain ⟨y0, y1, y2, y3⟩ := hb _ hM
                    clear hb hM hz
                    cases hgb : (gb || an) with
                    | true =>
                      have e := Lib.hid (show (gb || (y.2.g.take (q + 1)).any fun g => decide (g.2 = h)) = true by rw [ET.out, ← Bool.or_assoc, hgb]; rfl)
                      clear hgb ET
                      go_wp2
                      go_quiet (fail)
                      go_wp2
                      go_roundw
                      case rel => exact ⟨q + 1, by omega, by go_num, by rw [e.out], HM.out.drewN _⟩
                      case measure => simp [intOf]; omega
                    | false =>
                      obtain ⟨zn, z0, z1, z2, z3⟩ := z
                      obtain ⟨h0, h1, h2, h3⟩ := h
                      have e := Lib.hid (show (gb || (y.2.g.take (q + 1)).any fun g => decide (g.2 = (h0, h1, h2, h3))) = decide ((z0, z1, z2, z3) = (h0, h1, h2, h3)) by rw [ET.out, ← Bool.or_assoc, hgb]; rfl)
                      simp only at x0 x1 x2 x3 y0 y1 y2 y3
                      clear hgb ET
                      by_cases f0 : z0 = h0
                      rotate_left
                      · have e2 := Lib.hid (e.out.trans (decide_eq_false (by simp [f0])))
                        have t0 : ((z0 : Int) == (h0 : Int)) = false := by simp; omega
                        clear e f0
                        go_wp2
                        go_quiet (fail)
                        go_wp2
                        go_roundw
                        case rel => exact ⟨q + 1, by omega, by go_num, by rw [e2.out], HM.out.drewN _⟩
                        case measure => simp [intOf]; omega
                      by_cases f1 : z1 = h1
                      rotate_left
                      · have e2 := Lib.hid (e.out.trans (decide_eq_false (by simp [f1])))
                        have t0 : ((z1 : Int) == (h1 : Int)) = false := by simp; omega
                        subst f0
                        clear e f1
                        go_wp2
                        go_quiet (fail)
                        go_wp2
                        go_roundw
                        case rel => exact ⟨q + 1, by omega, by go_num, by rw [e2.out], HM.out.drewN _⟩
                        case measure => simp [intOf]; omega
                      by_cases f2 : z2 = h2
                      rotate_left
                      · have e2 := Lib.hid (e.out.trans (decide_eq_false (by simp [f2])))
                        have t0 : ((z2 : Int) == (h2 : Int)) = false := by simp; omega
                        subst f0 f1
                        clear e f2
                        go_wp2
                        go_quiet (fail)
                        go_wp2
                        go_roundw
                        case rel => exact ⟨q + 1, by omega, by go_num, by rw [e2.out], HM.out.drewN _⟩
                        case measure => simp [intOf]; omega
                      by_cases f3 : z3 = h3
                      rotate_left
                      · have e2 := Lib.hid (e.out.trans (decide_eq_false (by simp [f3])))
                        have t0 : ((z3 : Int) == (h3 : Int)) = false := by simp; omega
                        subst f0 f1 f2
                        clear e f3
                        go_wp2
                        go_quiet (fail)
                        go_wp2
                        go_roundw
                        case rel => exact ⟨q + 1, by omega, by go_num, by rw [e2.out], HM.out.drewN _⟩
                        case measure => simp [intOf]; omega
                      · have e2 := Lib.hid (e.out.trans (decide_eq_true (by simp [f0, f1, f2, f3])))
                        subst f0 f1 f2 f3
                        clear e
                        go_wp2
                        go_quiet (fail)
                        go_wp2
                        go_roundw
                        case rel => exact ⟨q + 1, by omega, by go_num, by rw [e2.out], HM.out.drewN _⟩
                        case measure => simp [intOf]; omega
                  · obtain rfl : q = gl := by omega
                    have hlq' : decide ((q : Int) < (q : Int)) = false := by simp
                    obtain ⟨a2, x0, x1, x2, x3⟩ := X6.out _ hM
                    have SM := Lib.hid (S6.out.mod0 hM)
                    have GM := Lib.hid (And.intro G6.out.1 (show g < wr.heap.size by have := G6.out.2; have := hM.size; omega))
                    have XM := Lib.hid (And.intro x0 (And.intro x1 (And.intro x2 x3)))
                    have EG2 := Lib.hid (show (gb || (y.2.g.take q).any fun g => decide (g.2 = h)) = givenB x h (c + 1) by rw [EG.out, HGL.out, List.take_length])
                    rw [EG2.out]
                    clear hM x0 x1 x2 x3
                    go_wp2
                    go_roundw
                    case rel => exact ⟨c + 1, v', by omega, by go_num, rfl, by rw [EX.out]; exact SM.out, GM.out.1, GM.out.2, XM.out⟩
                    case measure => simp [intOf]; omega
              · obtain rfl : c = 8 := by omega
                have WD := Lib.hid (waits_calls wr z2.heap.size sv bT bB mB v (relG x 8) hI.s)
                have HI8 := Lib.hid hI
                have hlt8 := ALL.out.2
                rw [ALL.out.1]
                have hlr : x.wl.length = r.length + 1 := by rw [hw]; rfl
                have hlt9 : ¬ (r.length : Int) + 1 ≤ ((relG x 8).wl.length : Int) := by omega
                have hlt10 : ¬ r.length + 1 ≤ (relG x 8).wl.length := by omega
                have hlt11 : (r.length + 1 ≤ (relG x 8).wl.length) = False := by simp only [eq_iff_iff, iff_false]; exact hlt10
                have HLR := Lib.hid hlr
                clear hlr
                clear hI hg hgl x0 x1 x2 x3
                go_wp2_with fail
                refine WD.out.mono ?_
                rintro e wd ⟨vd, rfl, od, md⟩
                obtain ⟨pd, cd, rfl⟩ := own_len od
                have HD := Lib.hid (HI8.out.mod0 md)
                have SC := Lib.hid (relG_scnd HC.out 8 (Nat.le_refl _))
                clear od md
                go_wp2
                go_roundw
                case rel => exact ⟨m + 1, v, relG x 8, by omega, by go_num, SC.out, by have := HLR.out; omega, HD.out⟩
                case measure => simp [intOf]; omega
end Go.Proofs.YtijjbkkcienfgaaDoor
