/- The walk of the law GrantScript: the service answers, and has, what the document says. Premises: the whole range and the table of kinds lie as laid. -/
import Derived.Test.YtijjbkkcienfgaaDoorProg
import Derived.Test.YtijjbkkcienfgaaDoorRgE
namespace Go.Proofs.YtijjbkkcienfgaaDoor
open Go.RowKit Rf
set_option linter.unusedVariables false
set_option linter.unusedSimpArgs false
attribute [local go_sem ↓] Go.wp_at_zero Go.wp_at_succ

theorem serve_glen (x : GS) (hx : x.last ≤ maxS) (z : List Nat) : (x.serve z).2.g.length ≤ x.wl.length := by
  have := (srvI_srv hx).len
  show x.srv.out.length ≤ _
  omega
theorem do_glen {x : GS} (h : GInv x) (c : CmdT) : (x.Do c).2.g.length ≤ 32 := by
  have hl := h.len
  unfold GS.Do
  split
  · unfold GS.ask
    (repeat' split) <;> simp [GA.err]
  split
  · unfold GS.release
    split
    · simp [GA.err]
    · refine Nat.le_trans (serve_glen _ ?_ _) hl
      exact h.last
  split
  · unfold GS.weaken
    split
    · simp [GA.err]
    · refine Nat.le_trans (serve_glen _ ?_ _) hl
      exact h.last
  split
  · simp [GS.renew]
  split
  · unfold GS.sweep
    refine Nat.le_trans (serve_glen _ ?_ _) (Nat.le_trans ?_ hl)
    · exact h.last
    · exact List.length_filter_le _ _
  split
  · unfold GS.recover
    (repeat' split) <;> simp [GA.err]
  split
  · unfold GS.done
    split
    · simp [GA.err]
    split
    · simp [GA.err]
    · refine Nat.le_trans (serve_glen _ ?_ _) hl
      exact h.last
  split
  · unfold GS.cancel
    split
    · simp [GA.err]
    split
    · simp [GA.err]
    · refine Nat.le_trans (serve_glen _ ?_ _) (Nat.le_trans ?_ hl)
      · exact h.last
      · exact List.length_filter_le _ _
  · simp [GA.err]
theorem do_parts (x : GS) (c : CmdT) : ∃ x' e n gl rl zl, x.Do c = (x', ⟨e, n, gl, rl, zl⟩) := ⟨_, _, _, _, _, _, rfl⟩
set_option maxRecDepth 100000 in
set_option maxHeartbeats 8000000 in
theorem grantScript_walk (W : World) (t0 : Whole W) (t1 : Kd W) (v0 : Value) (c0 : CellOk W (.sl [.int .i64, .int .i64, .int .i64, .int .i64, .int .i64, .int .i64, .int .i64, .int .i64, .int .i64]) v0) :
    Calls Tryd.prog 5 #[v0] W fun e w' => e = .returned (.bool true) ∧ Below W.heap.size W w' := by
  obtain ⟨p0, n, cap0, f, rfl, hn, hcap, hA⟩ := cmdArg_of c0
  clear c0
  have HT := Lib.hid (And.intro t0 t1)
  have HA := Lib.hid hA
  clear t0 t1 hA
  by_cases h40 : 30 < n
  · have hi : (30 : Int) < (n : Int) := by omega
    go_enter Tryd.func5, Tryd.ntmps5
    go_wp2_with (go_at_call 12; refine (shown_calls _ HT.out.1 HT.out.2).mono ?_; rintro e w' ⟨rfl, m⟩)
    go_ret
    exact ⟨rfl, m.below (Nat.le_refl _) (by simp)⟩
  have h5 : decide (30 < n) = false := by simpa using h40
  have h5' : decide ((30 : Int) < (n : Int)) = false := decide_eq_false (by omega)
  have h5n : ¬ (30 : Int) < (n : Int) := by omega
  go_enter Tryd.func5, Tryd.ntmps5
  go_wp2_with fail
  refine (shown_calls _ HT.out.1 HT.out.2).mono ?_
  rintro e z2 ⟨rfl, m2⟩
  have HB := Lib.hid (begun_calls z2 (Sv.whole_mod HT.out.1 m2 (by simp)) (HT.out.2.mod m2 (by simp)))
  have M2 := Lib.hid m2
  clear m2
  go_wp2_with fail
  refine HB.out.mono ?_
  rintro e w1 ⟨sv, bT, bB, mB, v1, rfl, l1⟩
  have L1 := Lib.hid l1
  have RN := Lib.hid (rnew_calls w1 (SvS sv bT bB mB v1) z2.heap.size (fun z hz => (svS_low l1.s hz).2) l1.m.size)
  clear l1 HB
  go_wp2_with fail
  refine RN.out.mono ?_
  rintro e w2 ⟨rs, rT, rB, gT, gS, gD, cap, gy, cy, rfl, r2, m2⟩
  have R2 := Lib.hid r2
  have L2 := Lib.hid (L1.out.mod0 m2)
  clear r2 m2 RN L1
  go_wp2
  go_loopw [5] (fun i wr => ∃ (k : Nat) (rv : Value), k ≤ 4 ∧ i = .int .i64 k ∧ LawS z2 wr z2.heap.size sv bT bB mB v1 (bg 4) ∧ RSv wr (SvS sv bT bB mB v1) z2.heap.size rs rT rB gT gS gD cap gy cy rv (bg k)) (fun i _ => 4 - (intOf i).toNat)
  case atStart => exact ⟨0, _, Nat.zero_le _, rfl, L2.out, R2.out⟩
  case round =>
    obtain ⟨k, rv, hk, rfl, hI, hR⟩ := hrel
    clear L2 R2
    by_cases hlt : k < 4
    · have i1 : (k : Int) < 4 := by omega
      have C := rdo_calls wr (SvS sv bT bB mB v1) z2.heap.size rs rT rB gT gS gD cap gy cy rv (bg k) (begC k) hR (fun z hz => (svS_low hI.s hz).2)
      unfold begC CmdT.arr at C
      simp only at C
      have C := Lib.hid C
      have HI := Lib.hid hI
      have HR := Lib.hid hR
      clear hI hR
      go_wp2_with fail
      refine C.out.mono ?_
      rintro e w3 ⟨gv, rv', dv, v', rfl, og, orr, od, s3, m3⟩
      have L3 := Lib.hid (laws_after HI.out HR.out m3)
      have R3 := Lib.hid s3
      clear og orr od s3 m3
      go_wp2
      go_roundw
      case rel => exact ⟨k + 1, v', by omega, by go_num, L3.out, R3.out⟩
      case measure => simp [intOf]; omega
    · have hk4 : k = 4 := by omega
      have i1 : decide ((k : Int) < 4) = false := decide_eq_false (by omega)
      rw [hk4] at hR
      have L3 := Lib.hid hI
      have R3 := Lib.hid hR
      clear hI hR hk4 hk hlt
      go_wp2
      go_loopw [6] (fun i wr => ∃ (k : Nat) (v rv : Value) (x : GS), k ≤ n ∧ i = .int .i64 k ∧ LawS z2 wr z2.heap.size sv bT bB mB v x ∧ RSv wr (SvS sv bT bB mB v) z2.heap.size rs rT rB gT gS gD cap gy cy rv x) (fun i _ => n - (intOf i).toNat)
      case atStart => exact ⟨0, _, _, _, Nat.zero_le _, rfl, L3.out, R3.out⟩
      case round =>
        obtain ⟨k, v, rv, x, hk, rfl, hI, hR⟩ := hrel
        clear L3 R3
        by_cases hlt : k < n
        · have i0 : (0 : Int) ≤ (k : Int) := by omega
          have i1 : (k : Int) < (n : Int) := by omega
          obtain ⟨b, off, rfl, y0, y1, y2, y3, y4, y5, y6, y7, y8⟩ := cmdArg_at HA.out (M2.out.trans hI.m) hlt
          obtain ⟨x', e, nn, gl, rl, zl, hy⟩ := do_parts x (cm f k)
          have hgl : gl.length ≤ 1000 := by
            have := do_glen hR.inv (cm f k)
            rw [hy] at this
            simp only at this
            omega
          have C := doL_calls z2 wr z2.heap.size sv bT bB mB v x (cm f k) hI
          rw [hy] at C
          have C := Lib.hid C
          have HY := Lib.hid hy
          have HI := Lib.hid hI
          have HR := Lib.hid hR
          have HGL := Lib.hid hgl
          clear hI hR hy hgl
          go_wp2_with fail
          refine C.out.mono ?_
          rintro e9 w3 ⟨gp, gc, rp, rc, dp, dc, v', rfl, og, orr, od, s3, hv, m3⟩
          simp only at og orr od s3
          have L3 := Lib.hid s3
          have R3 := Lib.hid (rsv_after (W := z2) (B := 0) (x' := x) HR.out hv m3)
          have TH := Lib.hid (theirs_calls w3 wr.heap.size e nn gp rp dp gc rl.length rc zl.length dc gl og HGL.out)
          have O3 := Lib.hid (And.intro orr od)
          have HSZ3 := Lib.hid m3.size
          have HV := Lib.hid hv
          clear og orr od s3 hv m3 C y0 y1 y2 y3 y4 y5 y6 y7 y8
          go_wp2_with fail
          refine TH.out.mono ?_
          rintro e9 w4 ⟨p4, c4, rfl, o4, m4⟩
          obtain ⟨w5, hw5⟩ : ∃ w5, w5 = w4.alloc (.cells #[.int .i64 e, .int .i64 nn, .slice p4 gl.length c4, .slice rp rl.length rc, .slice dp zl.length dc] 57) := ⟨_, rfl⟩
          have m5 : Mod [] w4 w5 := by rw [hw5]; exact (Mod.refl _ _).alloc _
          have A5 := Lib.hid (show Arr w5 w4.heap.size 57 5 (ansF e nn (.slice p4 gl.length c4) (.slice rp rl.length rc) (.slice dp zl.length dc)) by rw [hw5]; exact rans_new w4 _ _ _ _ _)
          have L5 := Lib.hid (L3.out.mod0 (m4.trans m5))
          have R5 := Lib.hid (R3.out.mod0 (m4.trans m5))
          have O5 := Lib.hid (And.intro (own_mod o4 m5 (fun _ _ => by simp)) (And.intro (own_mod O3.out.1 (m4.trans m5) (fun _ _ => by simp)) (own_mod O3.out.2 (m4.trans m5) (fun _ _ => by simp))))
          have HW5 := Lib.hid hw5
          have HSZ4 := Lib.hid m4.size
          obtain ⟨b2, off2, eb, y0, y1, y2, y3, y4, y5, y6, y7, y8⟩ := cmdArg_at HA.out (M2.out.trans L5.out.m) hlt
          cases eb
          have C2 := rdo_calls w5 (SvS sv bT bB mB v') z2.heap.size rs rT rB gT gS gD cap gy cy rv x (cm f k) R5.out (fun z hz => (svS_low L5.out.s hz).2)
          unfold CmdT.arr at C2
          rw [HY.out] at C2
          have C2 := Lib.hid C2
          clear o4 m4 hw5 m5 TH
          go_upto_region 13 with (fail)
          rw [← HW5.out]
          go_wp2_with fail
          refine C2.out.mono ?_
          rintro e9 w6 ⟨gv2, rv2, dv2, v2, rfl, og, orr, od, s6, m6⟩
          simp only at og orr od s6
          obtain ⟨p6, c6, rfl⟩ := own_len og
          obtain ⟨p7, c7, rfl⟩ := own_len orr
          obtain ⟨p8, c8, rfl⟩ := own_len od
          obtain ⟨w7, hw7⟩ : ∃ w7, w7 = w6.alloc (.cells #[.int .i64 e, .int .i64 nn, .slice p6 gl.length c6, .slice p7 rl.length c7, .slice p8 zl.length c8] 57) := ⟨_, rfl⟩
          have m7 : Mod [] w6 w7 := by rw [hw7]; exact (Mod.refl _ _).alloc _
          have A7 := (show Arr w7 w6.heap.size 57 5 (ansF e nn (.slice p6 gl.length c6) (.slice p7 rl.length c7) (.slice p8 zl.length c8)) by rw [hw7]; exact rans_new w6 _ _ _ _ _)
          have low : ∀ z, z ∈ RbL rs rT rB gT gS gD gy → z < wr.heap.size := HR.out.lt
          have hs3 := HSZ3.out
          have hs4 := HSZ4.out
          have A57 := (A5.out.mod m6 (fun e => by have := low _ e; omega)).mod m7 (by simp)
          have L7 := Lib.hid ((laws_after L5.out R5.out m6).mod0 m7)
          have R7 := Lib.hid (s6.mod0 m7)
          have q1 := own_mod (own_mod O5.out.1 m6 (fun q hq e => by have := low _ e; have := (own_lt' O5.out.1 q hq).1; omega)) m7 (fun _ _ => by simp)
          have q2 := own_mod (own_mod O5.out.2.1 m6 (fun q hq e => by have := low _ e; have := (own_lt' O5.out.2.1 q hq).1; omega)) m7 (fun _ _ => by simp)
          have q3 := own_mod (own_mod O5.out.2.2 m6 (fun q hq e => by have := low _ e; have := (own_lt' O5.out.2.2 q hq).1; omega)) m7 (fun _ _ => by simp)
          have q4 := own_mod og m7 (fun _ _ => by simp)
          have q5 := own_mod orr m7 (fun _ _ => by simp)
          have q6 := own_mod od m7 (fun _ _ => by simp)
          have dr : ∀ {b T sz : Nat} {u : Value} {nx : Nat} {xs : List Value}, w7.ownsRow b T sz u nx xs → w7.drew.ownsRow b T sz u nx xs := fun h => own_mod h (Mod.refl [] w7).drew (fun _ _ => by simp)
          have SAME := Lib.hid (rsame_calls w7.drew e nn _ _ _ _ _ _ p4 p6 rp p7 dp p8 c4 c6 rc c7 dc c8 gl rl zl (dr q1) (dr q4) (dr q2) (dr q5) (dr q3) (dr q6))
          obtain ⟨vL, hbx, oL, -⟩ := R7.out.tb.ex
          obtain ⟨pL, cL, rfl⟩ := own_len oL
          have HOL := Lib.hid (fun w' (m : Mod [] w7.drew w') => holds_calls w' z2.heap.size sv bT bB mB v' x' ((L7.out.s.mod0 (Mod.refl [] w7).drew).mod0 m))
          have WAI := Lib.hid (fun w' (m : Mod [] w7.drew w') => waits_calls w' z2.heap.size sv bT bB mB v' x' ((L7.out.s.mod0 (Mod.refl [] w7).drew).mod0 m))
          have SA := Lib.hid (fun w' v8 b (m : Mod [] w7.drew w') (o : w'.ownsRow b 39 4 v8 (listL x'.t).length (hcells (listL x'.t))) => same_eq w' v8 (.slice pL (listL x'.t).length cL) (listL x'.t) (hs_own o) (hs_own (own_mod oL ((Mod.refl [] w7).drew.trans m) (fun _ _ => by simp))))
          have SB := Lib.hid (fun w' v8 b (m : Mod [] w7.drew w') (o : w'.ownsRow b 39 4 v8 x'.wl.length (hcells x'.wl)) => same_eq w' v8 v2 x'.wl (hs_own o) (hs_own (own_mod R7.out.wt ((Mod.refl [] w7).drew.trans m) (fun _ _ => by simp))))
          have KS := Lib.hid (And.intro (A57.cell 0 (by omega)) (And.intro (A57.cell 1 (by omega)) (And.intro (A57.cell 2 (by omega)) (And.intro (A57.cell 3 (by omega)) (And.intro (A57.cell 4 (by omega)) (And.intro (A7.cell 0 (by omega)) (And.intro (A7.cell 1 (by omega)) (And.intro (A7.cell 2 (by omega)) (And.intro (A7.cell 3 (by omega)) (And.intro (A7.cell 4 (by omega)) (And.intro (R7.out.c0) (And.intro (hbx.cell) (R7.out.c2)))))))))))))
          simp only [ansF, if_true, if_false, Nat.reduceEqDiff] at KS
          have KSM := Lib.hid (fun w' (m : Mod [] w7.drew w') => And.intro (m.cell' KS.out.1 (by simp)) (And.intro (m.cell' KS.out.2.1 (by simp)) (And.intro (m.cell' KS.out.2.2.1 (by simp)) (And.intro (m.cell' KS.out.2.2.2.1 (by simp)) (And.intro (m.cell' KS.out.2.2.2.2.1 (by simp)) (And.intro (m.cell' KS.out.2.2.2.2.2.1 (by simp)) (And.intro (m.cell' KS.out.2.2.2.2.2.2.1 (by simp)) (And.intro (m.cell' KS.out.2.2.2.2.2.2.2.1 (by simp)) (And.intro (m.cell' KS.out.2.2.2.2.2.2.2.2.1 (by simp)) (And.intro (m.cell' KS.out.2.2.2.2.2.2.2.2.2.1 (by simp)) (And.intro (m.cell' KS.out.2.2.2.2.2.2.2.2.2.2.1 (by simp)) (And.intro (m.cell' KS.out.2.2.2.2.2.2.2.2.2.2.2.1 (by simp)) (m.cell' KS.out.2.2.2.2.2.2.2.2.2.2.2.2 (by simp))))))))))))))
          have HW7 := Lib.hid hw7
          clear hw7 m7 A7 A57 low hs3 hs4 q1 q2 q3 q4 q5 q6 dr og orr od s6 m6 hbx oL C2 y0 y1 y2 y3 y4 y5 y6 y7 y8
          go_upto_region 14 with (fail)
          rw [← HW7.out]
          go_cut [73] (fun s wx => s = .bool false ∧ Mod [] w7 wx)
          case first =>
            first
              | (go_region_held3 (fun w' => w'.cell? ⟨w4.heap.size, 0, none⟩ = some (.int .i64 e) ∧ w'.cell? ⟨w4.heap.size, 1, none⟩ = some (.int .i64 nn) ∧ w'.cell? ⟨w4.heap.size, 2, none⟩ = some (.slice p4 gl.length c4) ∧ w'.cell? ⟨w4.heap.size, 3, none⟩ = some (.slice rp rl.length rc) ∧ w'.cell? ⟨w4.heap.size, 4, none⟩ = some (.slice dp zl.length dc) ∧ w'.cell? ⟨w6.heap.size, 0, none⟩ = some (.int .i64 e) ∧ w'.cell? ⟨w6.heap.size, 1, none⟩ = some (.int .i64 nn) ∧ w'.cell? ⟨w6.heap.size, 2, none⟩ = some (.slice p6 gl.length c6) ∧ w'.cell? ⟨w6.heap.size, 3, none⟩ = some (.slice p7 rl.length c7) ∧ w'.cell? ⟨w6.heap.size, 4, none⟩ = some (.slice p8 zl.length c8) ∧ w'.cell? ⟨rs, 0, none⟩ = some (.pointer (some ⟨rT, 0, none⟩)) ∧ w'.cell? ⟨rT, 0, none⟩ = some (.slice pL (listL x'.t).length cL) ∧ w'.cell? ⟨rs, 2, none⟩ = some v2)
                  (first | exact KS.out | exact KSM.out _ (by assumption))
                  (first
                    | (go_at_call 23; (with_reducible refine SAME.out.mono ?_); rintro e9 wa ⟨rfl, ma⟩)
                    | (go_at_call 16; (with_reducible refine (HOL.out _ ma).mono ?_); rintro e9 wb ⟨vb, rfl, ob, mb⟩; have mab := ma.trans mb)
                    | (go_at_call 24; (with_reducible refine (SA.out _ _ _ mab ob).mono ?_); rintro e9 wc ⟨rfl, mc⟩; have mac := mab.trans mc)
                    | (go_at_call 25; (with_reducible refine (WAI.out _ mac).mono ?_); rintro e9 wd ⟨vd, rfl, od, md⟩; have mad := mac.trans md)
                    | (go_at_call 24; (with_reducible refine (SB.out _ _ _ mad od).mono ?_); rintro e9 we ⟨rfl, me⟩; have mae := mad.trans me)))
              | fail
            have MF := Lib.hid (Mod.of_drew mae)
            clear ma mb mc md me mab mac mad mae ob od
            go_wp2
            go_meet
            exact ⟨rfl, MF.out⟩
          case rest =>
            obtain ⟨rfl, mc⟩ := hcut
            have L8 := Lib.hid (L7.out.mod0 mc)
            have R8 := Lib.hid (R7.out.mod0 mc)
            clear mc KS KSM SAME HOL WAI SA SB
            generalize wc = w8 at *
            generalize wr = wo at *
            go_wp2
            go_loopw [9] (fun i wq => ∃ c : Int, -1 ≤ c ∧ c ≤ 9 ∧ i = .int .i64 c ∧ Mod [] w8 wq) (fun i _ => (9 - intOf i).toNat)
            case atStart => exact ⟨-1, by omega, by omega, rfl, Mod.refl _ _⟩
            case round =>
              obtain ⟨c, hc1, hc2, rfl, hM⟩ := hrel
              by_cases h8 : c ≤ 8
              · have L9 := Lib.hid (L8.out.mod0 hM)
                have R9 := Lib.hid (R8.out.mod0 hM)
                have s1 := L9.out.s.c1
                have s2 := R9.out.c1
                obtain ⟨bd, hbd⟩ : ∃ bd, bd = deadV x'.d c := ⟨_, rfl⟩
                obtain ⟨bu, hbu⟩ : ∃ bu, bu = untilV x'.u c := ⟨_, rfl⟩
                have D1 := Lib.hid (fun w' (m : Mod [] wr w') => (bkDead_calls w' bB x'.u x'.s x'.d c (L9.out.s.mod0 m).bk).mono (R' := fun e w'' => e = .returned (.bool bd) ∧ w'' = w') (fun e w'' k => ⟨by rw [k.1, hbd], k.2.symm⟩))
                have D2 := Lib.hid (fun w' (m : Mod [] wr w') => (rbDead_calls w' rB gT gS gD cap x'.u x'.s x'.d c (R9.out.mod0 m).bk).mono (R' := fun e w'' => e = .returned (.bool bd) ∧ w'' = w') (fun e w'' k => ⟨by rw [k.1, hbd], k.2.symm⟩))
                have U1 := Lib.hid (fun w' (m : Mod [] wr w') => (bkUntil_calls w' bB x'.u x'.s x'.d c (L9.out.s.mod0 m).bk).mono (R' := fun e w'' => e = .returned (.int .i64 bu) ∧ w'' = w') (fun e w'' k => ⟨by rw [k.1, hbu], k.2.symm⟩))
                have U2 := Lib.hid (fun w' (m : Mod [] wr w') => (rbUntil_calls w' rB gT gS gD cap x'.u x'.s x'.d c (R9.out.mod0 m).bk).mono (R' := fun e w'' => e = .returned (.int .i64 bu) ∧ w'' = w') (fun e w'' k => ⟨by rw [k.1, hbu], k.2.symm⟩))
                have HM := Lib.hid hM
                clear hM hbd hbu
                go_wp2
                go_quiet (first
                  | (go_at_call 15; exact Calls.quiet_of_same (D1.out _ ((Mod.refl _ _).drewN _)))
                  | (go_at_call 26; exact Calls.quiet_of_same (D2.out _ ((Mod.refl _ _).drewN _)))
                  | (go_at_call 17; exact Calls.quiet_of_same (U1.out _ ((Mod.refl _ _).drewN _)))
                  | (go_at_call 27; exact Calls.quiet_of_same (U2.out _ ((Mod.refl _ _).drewN _))))
                go_wp2
                go_roundw
                case rel => exact ⟨c + 1, by omega, by omega, by go_num, HM.out.drewN _⟩
                case measure => simp [intOf]; omega
              · obtain rfl : c = 9 := by omega
                have L9 := Lib.hid (L8.out.mod0 hM)
                have R9 := Lib.hid (R8.out.mod0 hM)
                clear hM hc1 hc2 h8
                go_wp2
                go_roundw
                case rel => exact ⟨k + 1, v', v2, x', by omega, by go_num, L9.out, R9.out⟩
                case measure => simp [intOf]; omega
        · obtain rfl : k = n := by omega
          have hlt' : decide ((k : Int) < (k : Int)) = false := by simp
          have FIN := Lib.hid (M2.out.trans hI.m)
          clear hI hR
          go_wp2
          go_ret
          exact ⟨rfl, FIN.out.below (Nat.le_refl _) (by simp)⟩
end Go.Proofs.YtijjbkkcienfgaaDoor
