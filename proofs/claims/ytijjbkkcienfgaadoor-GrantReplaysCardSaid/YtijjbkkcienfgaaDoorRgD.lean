/- Sweeping, recovering, being done, at the document's side; any command; a new service. No condition beyond what stands in each. (Written by wip/tools/genRg6.py.) -/
import Derived.Test.YtijjbkkcienfgaaDoorRgC
namespace Go.Proofs.YtijjbkkcienfgaaDoor.Rf
open Go.RowKit
set_option linter.unusedVariables false
set_option linter.unusedSimpArgs false
attribute [local go_sem ↓] Go.wp_at_zero Go.wp_at_succ

theorem inv_bb {x : GS} (h : GInv x) (i : Nat) (u : Int) (hu : -1 ≤ u ∧ u < 8) : GInv { x with bb := upd x.bb i u } :=
  ⟨h.last, h.wl, h.len, h.one, fun j hj => by
    show -1 ≤ upd x.bb i u j ∧ upd x.bb i u j < 8
    unfold upd
    split
    · exact hu
    · exact h.by1 j hj⟩
set_option maxRecDepth 100000 in
set_option maxHeartbeats 8000000 in
theorem rdo_sweep (w : World) (X : List Nat) (N0 sv rT bB gT gS gD cap gy cy : Nat) (v : Value) (x : GS) (c : CmdT) (hS : RSv w X N0 sv rT bB gT gS gD cap gy cy v x) (hX : ∀ z, z ∈ X → z < w.heap.size) (hk : c.k = 5) :
    Calls Tryd.prog 21 #[.pointer (some ⟨sv, 0, none⟩), .agg c.arr] w (RDoP w X N0 sv rT bB gT gS gD cap gy cy (x.sweep c)) := by
  obtain ⟨w1, hw1⟩ : ∃ w1, w1 = (w.alloc (.cells c.arr 59)).alloc (.cells zeroAns 57) := ⟨_, rfl⟩
  have R1 := rcm_start c hS
  rw [← hw1] at R1
  have HR1 := Lib.hid R1
  have HW1 := Lib.hid hw1
  have HLT := Lib.hid hS.lt
  have HX := Lib.hid hX
  have HX1 := Lib.hid (show ∀ z, z ∈ X → z < w1.heap.size from fun z hz => by have := hX z hz; have := R1.m.size; omega)
  have HIV := Lib.hid hS.inv
  have HNE := Lib.hid hS.ne
  have hsz := R1.z.lt
  have y0 := R1.a.cell 0 (by omega)
  have y3 := R1.a.cell 3 (by omega)
  simp only [CmdT.f, if_true, if_false, Nat.reduceEqDiff] at y0 y3
  rw [hk] at y0
  have C2 := Lib.hid (rbSweep_calls w1.drew bB gT gS gD cap x.u x.s x.d c.n (R1.s.mod0 (Mod.refl [] w1).drew).bk)
  have KS := Lib.hid (And.intro R1.s.c1 y3)
  have n1 : sv ∉ [gD] := by simp; exact HNE.out.2.2.2.2.1
  have n2 : w.heap.size ∉ [gD] := fun e => by have h := HLT.out gD (by simp [RbL]); have := List.mem_singleton.1 e; omega
  have KSM := Lib.hid (fun w' (m : Mod [gD] w1.drew w') => And.intro (m.cell' KS.out.1 n1) (m.cell' KS.out.2 n2))
  obtain ⟨d', hd'⟩ : ∃ d', d' = swD x.u x.d c.n 8 := ⟨_, rfl⟩
  obtain ⟨zl, hzl⟩ : ∃ zl, zl = swL x.u x.d c.n 8 := ⟨_, rfl⟩
  obtain ⟨p, hp⟩ : ∃ p : HoldT → Bool, p = fun h => !deadV d' h.2.2.1 := ⟨_, rfl⟩
  have E := Lib.hid (show x.sweep c = GS.serve { x with d := d', wl := x.wl.filter p } zl by rw [hp, hd', hzl]; rfl)
  have HD := Lib.hid hd'
  have HZ := Lib.hid hzl
  have HP := Lib.hid hp
  obtain ⟨p0, cap0, rfl, hcap1, hcap2, hcell⟩ := own_holds' R1.s.wt
  have HC := Lib.hid hcell
  have h32 := hS.inv.len
  clear n1 n2 hd' hzl hp hcell
  rw [hw1] at y0 y3
  clear hw1 R1 hS hX
  unfold zeroAns at HW1 y0 y3
  unfold CmdT.arr at HW1 y0 y3 ⊢
  rw [hk] at HW1 y0 y3 ⊢
  clear hk
  go_enter Tryd.func21, Tryd.ntmps21
  go_upto_region 16 with (fail)
  rw [← HW1.out]
  go_cut [7] (fun s7 wx => ∃ p7 c7, s7 = .slice p7 zl.length c7 ∧ RCm w X N0 sv rT bB gT gS gD cap gy cy (.slice p0 x.wl.length cap0) { x with d := d' } c wx ∧ Mod [gD] w1 wx ∧ wx.ownsRow w1.heap.size 3 1 (.slice p7 zl.length c7) zl.length (intsOf zl))
  case first =>
    first
      | (go_region_held3 (fun w' => w'.cell? ⟨sv, 1, none⟩ = some (.pointer (some ⟨bB, 0, none⟩)) ∧ w'.cell? ⟨w.heap.size, 3, none⟩ = some (.int .i64 c.n))
          (first | exact KS.out | exact KSM.out _ (by assumption))
          (first
            | (go_at_call 45; (with_reducible refine C2.out.mono ?_); rintro e w2 ⟨v2, rfl, o2, b2, m2⟩)))
      | fail
    all_goals
      rw [← HZ.out] at o2
      obtain ⟨p7, c7, rfl⟩ := own_len o2
      have s2 := RSv.setB (HR1.out.s.mod0 (Mod.refl [] w1).drew) b2 (m2.mono (by simp))
      rw [← HD.out] at s2
      have R2 := Lib.hid (HR1.out.own HLT.out s2 (Mod.of_drew m2) (fun z hz => by have := List.mem_singleton.1 hz; subst this; simp [RbL]))
      have O2 := Lib.hid o2
      have M2 := Lib.hid (Mod.of_drew m2)
      clear b2 m2 s2 o2
      go_wp2
      go_meet
      exact ⟨_, _, rfl, R2.out, M2.out, O2.out⟩
  case rest =>
    obtain ⟨p7, c7, rfl, hR, hM, hO⟩ := hcut
    generalize wc = wz at *
    have R2 := Lib.hid hR
    have M2 := Lib.hid hM
    have O2 := Lib.hid hO
    have HC2 := Lib.hid (show 0 < x.wl.length → ∃ g, p0 = some ⟨g, 0, none⟩ ∧ ∀ i h, x.wl[i]? = some h → wz.cell? ⟨g, i * 4, none⟩ = some (.int .i64 h.1) ∧ wz.cell? ⟨g, i * 4 + 1, none⟩ = some (.int .i64 h.2.1) ∧ wz.cell? ⟨g, i * 4 + 2, none⟩ = some (.int .i64 h.2.2.1) ∧ wz.cell? ⟨g, i * 4 + 3, none⟩ = some (.int .i64 h.2.2.2) from fun h0 => by
      obtain ⟨g, e, _, _, hx⟩ := HC.out h0
      have hg : g ∉ [gD] := fun e9 => by
        have e9 := List.mem_singleton.1 e9
        exact HR1.out.s.holds HR1.out.s.wt g (by rw [e]; rfl) (by rw [e9]; simp [RbL])
      exact ⟨g, e, fun i h hi => ⟨hM.cell' (hx i h hi).1 hg, hM.cell' (hx i h hi).2.1 hg, hM.cell' (hx i h hi).2.2.1 hg, hM.cell' (hx i h hi).2.2.2 hg⟩⟩)
    have hzz : w1.heap.size ≤ wz.heap.size := hM.size
    have F0 := Lib.hid (flt_zero wz x.wl p)
    clear hR hM hO KS KSM y0 y3
    go_wp2
    go_loopw [8, 9] (fun lv i wr => ∃ j : Nat, j ≤ x.wl.length ∧ i = .int .i64 j ∧ FltI wz wr lv ((x.wl.take j).filter p)) (fun _ i _ => x.wl.length - (intOf i).toNat)
    case atStart => exact ⟨0, Nat.zero_le _, rfl, F0.out⟩
    case round =>
      obtain ⟨j, hj, rfl, hI⟩ := hrel
      have R3 := Lib.hid (R2.out.next hI.md)
      have c2r := R3.out.s.c2
      have c1r := R3.out.s.c1
      have hsr : sv < wr.heap.size := R3.out.s.arr.lt
      by_cases hlt : j < x.wl.length
      · have i0 : (0 : Int) ≤ (j : Int) := by omega
        have i1 : (j : Int) < (x.wl.length : Int) := by omega
        obtain ⟨g, rfl, hx⟩ := HC2.out (by omega)
        obtain ⟨h, hh⟩ : ∃ h, x.wl[j]? = some h := ⟨_, List.getElem?_eq_getElem hlt⟩
        obtain ⟨z0, z1, z2, z3⟩ := hx j h hh
        replace z0 := hI.md.cell' z0 (by simp)
        replace z1 := hI.md.cell' z1 (by simp)
        replace z2 := hI.md.cell' z2 (by simp)
        replace z3 := hI.md.cell' z3 (by simp)
        have HH := Lib.hid hh
        have HI := Lib.hid hI
        obtain ⟨b, hb⟩ : ∃ b, b = deadV d' h.2.2.1 := ⟨_, rfl⟩
        have KP := Lib.hid (show p h = !b by rw [HP.out, hb])
        have DC := Lib.hid (fun w9 (m : Mod [] wr w9) => (rbDead_calls w9 bB gT gS gD cap x.u x.s d' h.2.2.1 (R3.out.s.mod0 m).bk).mono (R' := fun e w' => e = .returned (.bool b) ∧ w' = w9) (fun e w' k => ⟨by rw [k.1, hb], k.2.symm⟩))
        have hlen : ((x.wl.take j).filter p).length ≤ 32 := Nat.le_trans (Nat.le_trans (List.length_filter_le _ _) (List.length_take_le _ _)) (by omega)
        clear hx hh hI hb
        cases b with
        | true =>
          have FIN := Lib.hid (fun w9 (m : Mod [] wr w9) => flt_skip HI.out HH.out (by rw [KP.out]; rfl) m)
          go_wp2
          go_quiet (first | (go_at_call 26; exact Calls.quiet_of_same (DC.out _ ((Mod.refl _ _).drewN _))))
          go_wp2
          go_roundw
          case rel => exact ⟨j + 1, by omega, by go_num, FIN.out _ ((Mod.refl _ _).drewN _)⟩
          case measure => simp [intOf]; omega
        | false =>
          have HE := Lib.hid (show p h = true by rw [KP.out]; rfl)
          go_wp2
          go_quiet (first | (go_at_call 26; exact Calls.quiet_of_same (DC.out _ ((Mod.refl _ _).drewN _))))
          have mq : Mod [] wr (wr.drewN nq) := (Mod.refl _ _).drewN _
          have HMQ := Lib.hid mq
          replace c2r := mq.cell' c2r (by simp)
          replace z0 := mq.cell' z0 (by simp)
          replace z1 := mq.cell' z1 (by simp)
          replace z2 := mq.cell' z2 (by simp)
          replace z3 := mq.cell' z3 (by simp)
          have hsz9 := mq.size
          clear mq c1r DC
          generalize wr.drewN nq = wq at *
          have HO := Lib.hid (own_mod HI.out.own (HMQ.out.alloc (.cells #[.int .i64 h.1, .int .i64 h.2.1, .int .i64 h.2.2.1, .int .i64 h.2.2.2] 39)) (fun _ _ => by simp))
          have HN := Lib.hid (hnews_at wq h)
          go_wp2_with (at_builtin; refine app1 wz.heap.size 31 39 (.agg #[.int .i64 0, .int .i64 0, .int .i64 0, .int .i64 0]) 4 32 Tryd.underlying31 info_hold rfl (by omega) (by omega) rfl _ _ rfl u8 _ _ rfl HO.out wq.heap.size (hcell h) rfl rfl HN.out (by simp [hcell, Value.oneCell']) (by omega) (by have := HI.out.md.size; simp; omega) ?_; intro g1 cap1 w3 ho2 hm2 hgg hbg)
          have FIN := Lib.hid (flt_more HI.out HH.out HE.out (HMQ.out.alloc _) hm2 ho2)
          clear ho2 hm2 hgg hbg
          go_roundw
          case rel => exact ⟨j + 1, by omega, by go_num, FIN.out⟩
          case measure => simp [intOf]; omega
      · obtain rfl : j = x.wl.length := by omega
        have hlt' : decide ((x.wl.length : Int) < (x.wl.length : Int)) = false := by simp
        have HI := (show FltI wz wr u8 (x.wl.filter p) by have := hI; rw [List.take_length] at this; exact this)
        obtain ⟨fl, hfl⟩ : ∃ fl, fl = x.wl.filter p := ⟨_, rfl⟩
        rw [← hfl] at HI
        obtain ⟨p5, c5, rfl⟩ := own_len HI.own
        have HI := Lib.hid HI
        have E := Lib.hid (E.out.trans (by rw [← hfl]))
        have f2r := R3.out.s.arr.free 2
        obtain ⟨w3, hw3⟩ : ∃ w3, w3 = wr.setCell ⟨sv, 2, none⟩ (.slice p5 fl.length c5) := ⟨_, rfl⟩
        have s3 : RSv w3 X N0 sv rT bB gT gS gD cap gy cy (.slice p5 fl.length c5) { x with d := d', wl := fl } := by
          rw [hw3]
          exact RSv.setV (l := fl) (n := x.last) R3.out.s (own_base HI.out.own (Nat.zero_le _)) (fun k hk e => by
            have h1 := (own_lt' HI.out.own k hk).1
            have h2 := HX.out k e
            have h3 := HR1.out.m.size
            omega) (inv_filter HIV.out _ hfl rfl rfl) (fun j hj => by
            match j, hj with
            | 0, _ | 1, _ | 2, _ | 3, _ | 4, _ => rfl)
        have m3 : Mod [sv] wr w3 := by rw [hw3]; exact (Mod.refl _ _).setCell (.inl (by simp)) _
        have R4 := Lib.hid (R3.out.own HLT.out s3 m3 (fun z hz => by have := List.mem_singleton.1 hz; subst this; simp [RbL]))
        have hslt := HLT.out sv (by simp [RbL])
        have hrlt := HLT.out rT (by simp [RbL])
        have hw1w := HR1.out.m.size
        have O3 := Lib.hid (own_mod (own_mod O2.out HI.out.md (fun _ _ => by simp)) m3 (fun k hk e => by have h1 := (own_lt' O2.out k hk).1; have := List.mem_singleton.1 e; omega))
        have SV := Lib.hid (rserve_calls w3 X N0 sv rT bB gT gS gD cap gy cy _ _ s3 (fun z hz => by have := HX.out z hz; have := R4.out.m.size; omega))
        have HW3 := Lib.hid hw3
        clear hI hfl hw3 s3 m3
        go_upto_region 24 with (fail)
        rw [← HW3.out]
        clear c2r c1r f2r
        go_wp2_with fail
        refine SV.out.mono ?_
        rintro e w4 ⟨gv, v', rfl, og, s4, m4⟩
        obtain ⟨p6, c6, rfl⟩ := own_len og
        have R5 := Lib.hid (R4.out.own HLT.out s4 m4 sv_in)
        have FIN := Lib.hid (RCm.served (zs := zl) R5.out (own_base og (Nat.zero_le _)) (own_base (own_mod O3.out m4 (fun k hk e => by have h1 := (own_lt' O3.out k hk).1; simp at e; omega)) (Nat.zero_le _)))
        obtain ⟨g0, g1, g2, g3, g4, g5, g6, g7, g8, g9⟩ := rans_facts R5.out.z
        clear og s4 m4
        go_wp2
        (try simp only [Exit.inBlock, Exit.then])
        exact bodyPost_ret (rans_res rfl rfl (put5_arr R5.out.z _ _ _ _ _)) rfl (by rw [E.out]; exact FIN.out)
set_option maxRecDepth 100000 in
set_option maxHeartbeats 8000000 in
theorem rdo_recover (w : World) (X : List Nat) (N0 sv rT bB gT gS gD cap gy cy : Nat) (v : Value) (x : GS) (c : CmdT) (hS : RSv w X N0 sv rT bB gT gS gD cap gy cy v x) (hX : ∀ z, z ∈ X → z < w.heap.size) (hk : c.k = 6) :
    Calls Tryd.prog 21 #[.pointer (some ⟨sv, 0, none⟩), .agg c.arr] w (RDoP w X N0 sv rT bB gT gS gD cap gy cy (x.recover c)) := by
  obtain ⟨w1, hw1⟩ : ∃ w1, w1 = (w.alloc (.cells c.arr 59)).alloc (.cells zeroAns 57) := ⟨_, rfl⟩
  have R1 := rcm_start c hS
  rw [← hw1] at R1
  have HR1 := Lib.hid R1
  have HW1 := Lib.hid hw1
  have HLT := Lib.hid hS.lt
  have HX := Lib.hid hX
  have HX1 := Lib.hid (show ∀ z, z ∈ X → z < w1.heap.size from fun z hz => by have := hX z hz; have := R1.m.size; omega)
  have HIV := Lib.hid hS.inv
  have HNE := Lib.hid hS.ne
  have hsz := R1.z.lt
  have y0 := R1.a.cell 0 (by omega)
  have y1 := R1.a.cell 1 (by omega)
  have y2 := R1.a.cell 2 (by omega)
  have y3 := R1.a.cell 3 (by omega)
  have y4 := R1.a.cell 4 (by omega)
  have y5 := R1.a.cell 5 (by omega)
  have y6 := R1.a.cell 6 (by omega)
  have y7 := R1.a.cell 7 (by omega)
  have y8 := R1.a.cell 8 (by omega)
  simp only [CmdT.f, if_true, if_false, Nat.reduceEqDiff] at y0 y1 y2 y3 y4 y5 y6 y7 y8
  rw [hk] at y0
  have CR := rrecovering_calls w1 sv bB gT gS gD cap x.u x.s x.d c R1.s.c1 R1.s.bk
  unfold CmdT.arr at CR
  rw [hk] at CR
  have CR := Lib.hid CR
  by_cases hr : recB x.u x.d c.c c.o = 0
  rotate_left
  · have E := Lib.hid (show x.recover c = (x, .err (recB x.u x.d c.c c.o)) by unfold GS.recover; rw [if_pos (by rw [recB_of]; exact hr)]; rfl)
    obtain ⟨re, hre⟩ : ∃ re, re = recB x.u x.d c.c c.o := ⟨_, rfl⟩
    rw [← hre] at E CR hr
    have hr1 : (re != 0) = true := by simpa using hr
    clear hr hre
    rw [hw1] at y0 y1 y2 y3 y4 y5 y6 y7 y8
    clear hw1 R1 hS hX
    unfold zeroAns at HW1 y0 y1 y2 y3 y4 y5 y6 y7 y8
    unfold CmdT.arr at HW1 y0 y1 y2 y3 y4 y5 y6 y7 y8 ⊢
    rw [hk] at HW1 y0 y1 y2 y3 y4 y5 y6 y7 y8 ⊢
    clear hk
    go_enter Tryd.func21, Tryd.ntmps21
    go_wp2_with fail
    rw [← HW1.out] at *
    refine CR.out.mono ?_
    rintro e w2 ⟨rfl, m2⟩
    have R2 := Lib.hid (HR1.out.next m2)
    obtain ⟨g0, g1, g2, g3, g4, g5, g6, g7, g8, g9⟩ := rans_facts R2.out.z
    clear m2
    go_wp2
    (try simp only [Exit.inBlock, Exit.then])
    exact bodyPost_ret (rans_res rfl rfl (put5_arr R2.out.z _ _ _ _ _)) rfl (R2.out.err E.out)
  · have E1 := Lib.hid (show ∀ z, (if x.recE c ≠ 0 then (x, GA.err (x.recE c)) else z) = z from fun z => if_neg (by rw [recB_of, hr]; simp))
    obtain ⟨hlv, hdd⟩ := recB_ok hr
    have hoo := dead_in hdd
    have hcc := lives_in hlv
    obtain ⟨ko, hko⟩ : ∃ ko : Nat, c.o = ko := ⟨c.o.toNat, by omega⟩
    have ko8 : ko < 8 := by omega
    have hkt : c.o.toNat = ko := by omega
    have HKT := Lib.hid hkt
    have HCC := Lib.hid hcc
    have HKO := Lib.hid hko
    obtain ⟨by0, hby0⟩ : ∃ by0, by0 = x.bb ko := ⟨_, rfl⟩
    have HBY := Lib.hid hby0
    have HBB := Lib.hid (HIV.out.by1 ko ko8)
    rw [hr] at CR
    rw [hko] at y8 CR
    clear hlv hdd hr hoo hcc hkt hby0
    rw [hw1] at y0 y1 y2 y3 y4 y5 y6 y7 y8
    clear hw1 R1 hS hX
    unfold zeroAns at HW1 y0 y1 y2 y3 y4 y5 y6 y7 y8
    unfold CmdT.arr at HW1 y0 y1 y2 y3 y4 y5 y6 y7 y8 ⊢
    rw [hko] at HW1
    rw [hko]
    rw [hk] at HW1 y0 ⊢
    clear hk hko
    go_enter Tryd.func21, Tryd.ntmps21
    go_wp2_with fail
    rw [← HW1.out] at *
    refine CR.out.mono ?_
    rintro e w2 ⟨rfl, m2⟩
    have R2 := Lib.hid (HR1.out.next m2)
    have i0 : (0 : Int) ≤ (ko : Int) := by omega
    have i1 : (ko : Int) < 8 := by omega
    clear m2 y0 y1 y2 y3 y4 y5 y6 y7 y8 CR
    have c4 := R2.out.s.c4
    have q1 := R2.out.a.cell 1 (by omega)
    have q8 := R2.out.a.cell 8 (by omega)
    have qb := R2.out.s.by'.cell ko ko8
    simp only [CmdT.f, if_true, if_false, Nat.reduceEqDiff] at q1 q8
    rw [HKO.out] at q8
    rw [← HBY.out] at qb
    go_upto_region 29 with (fail)
    go_quiet (fail)
    have R3 := Lib.hid (R2.out.next ((Mod.refl [] w2).drewN nq))
    clear c4 q1 q8 qb
    generalize w2.drewN nq = wz at *
    have q1 := R3.out.a.cell 1 (by omega)
    simp only [CmdT.f, if_true, if_false, Nat.reduceEqDiff] at q1
    have LC := Lib.hid (rlives_calls wz sv bB gT gS gD cap x.u x.s x.d by0 R3.out.s.c1 R3.out.s.bk)
    obtain ⟨lb, hlb⟩ : ∃ lb, lb = livesB x.u x.d by0 := ⟨_, rfl⟩
    rw [← hlb] at LC
    have HLB := Lib.hid hlb
    obtain ⟨q, hq⟩ : ∃ q, q = (decide (0 ≤ by0) && (decide (by0 ≠ c.c) && lb)) := ⟨_, rfl⟩
    have HQ := Lib.hid hq
    clear hlb hq
    go_upto_region 30 with (fail)
    go_cut [153] (fun s wx => s = .bool q ∧ wx = wz)
    case first =>
      by_cases b0 : 0 ≤ by0
      · have t0 : decide (0 ≤ by0) = true := decide_eq_true b0
        by_cases b1 : by0 = c.c
        · have t1 : (by0 != c.c) = false := by simpa using b1
          have e := Lib.hid (show q = false by rw [HQ.out]; simp [b1])
          clear b0 b1
          go_wp2
          go_meet
          exact ⟨by rw [e.out], rfl⟩
        · have t1 : (by0 != c.c) = true := by simpa using b1
          have e := Lib.hid (show q = lb by rw [HQ.out]; simp [b0, b1])
          clear b1
          go_wp2_with (go_at_call 47; refine LC.out.mono ?_; rintro e w9 ⟨rfl, rfl⟩)
          go_meet
          exact ⟨by rw [e.out], rfl⟩
      · have t0 : decide (0 ≤ by0) = false := decide_eq_false b0
        have e := Lib.hid (show q = false by rw [HQ.out]; simp [b0])
        clear b0
        go_wp2
        go_meet
        exact ⟨by rw [e.out], rfl⟩
    case rest =>
      obtain ⟨rfl, hwc⟩ := hcut
      subst wc
      cases q with
      | true =>
        have E := Lib.hid (show x.recover c = (x, .err 150) by
          unfold GS.recover
          rw [E1.out, HKT.out, ← HBY.out, if_pos]
          have := HQ.out.symm
          rw [HLB.out] at this
          simpa using this)
        obtain ⟨g0, g1, g2, g3, g4, g5, g6, g7, g8, g9⟩ := rans_facts R3.out.z
        go_wp2
        (try simp only [Exit.inBlock, Exit.then])
        exact bodyPost_ret (rans_res rfl rfl (put5_arr R3.out.z _ _ _ _ _)) rfl (R3.out.err E.out)
      | false =>
        have E := Lib.hid (show x.recover c = ({ x with bb := upd x.bb ko c.c }, ⟨0, 0, [], someL x.t 0 256 (pOf c.o), []⟩) by
          unfold GS.recover
          rw [E1.out, HKT.out, ← HBY.out, if_neg, some_filter]
          intro h
          have := HQ.out.symm
          rw [HLB.out] at this
          simp [h.1, h.2.1, h.2.2] at this)
        have c4 := R3.out.s.c4
        have q8 := R3.out.a.cell 8 (by omega)
        simp only [CmdT.f, if_true, if_false, Nat.reduceEqDiff] at q8
        rw [HKO.out] at q8
        have qb := R3.out.s.by'.cell ko ko8
        have qf := R3.out.s.by'.free ko
        have KS := Lib.hid (And.intro c4 (And.intro q8 q1))
        have n1 : sv ∉ [gy] := by simpa using HNE.out.2.2.2.2.2.1
        have n2 : w.heap.size ∉ [gy] := fun e => by have := List.mem_singleton.1 e; have := HLT.out gy (by simp [RbL]); omega
        have KSM := Lib.hid (fun w' (m : Mod [gy] wz.drew w') => And.intro (m.cell' KS.out.1 n1) (And.intro (m.cell' KS.out.2.1 n2) (m.cell' KS.out.2.2 n2)))
        have s5 := RSv.setY (i := ko) (u := c.c) (R3.out.s.mod0 (Mod.refl [] wz).drew) (inv_bb HIV.out ko c.c (by have := HCC.out; omega))
        have m5 : Mod [gy] wz (wz.drew.setCell ⟨gy, ko, none⟩ (.int .i64 c.c)) := ((Mod.refl [gy] wz).drew).setCell (.inl (by simp)) _
        have R5 := Lib.hid (R3.out.own HLT.out s5 m5 (fun z hz => by have := List.mem_singleton.1 hz; subst this; simp [RbL]))
        clear n1 n2 s5 m5
        go_upto_region 32 with (fail)
        go_cut [0] (fun s0 wx => s0 = .pointer (some ⟨sv, 0, none⟩) ∧ RCm w X N0 sv rT bB gT gS gD cap gy cy v { x with bb := upd x.bb ko c.c } c wx)
        case first =>
          first
            | (go_region_held3 (fun w' => w'.cell? ⟨sv, 4, none⟩ = some (.slice (some ⟨gy, 0, none⟩) 8 cy) ∧ w'.cell? ⟨w.heap.size, 8, none⟩ = some (.int .i64 ko) ∧ w'.cell? ⟨w.heap.size, 1, none⟩ = some (.int .i64 c.c))
                (first | exact KS.out | exact KSM.out _ ((Mod.refl _ _).setCell (.inl (by simp)) _) | exact KSM.out _ (((Mod.refl _ _).setCell (.inl (by simp)) _).drew))
                (fail))
            | fail
          all_goals
            go_wp2
            go_meet
            exact ⟨rfl, R5.out⟩
        case rest =>
          obtain ⟨rfl, hR6⟩ := hcut
          have R6 := Lib.hid hR6
          clear hR6 KS KSM c4 q8 qb qf q1
          generalize wc = wq at *
          have c0 := R6.out.s.c0
          have q8 := R6.out.a.cell 8 (by omega)
          simp only [CmdT.f, if_true, if_false, Nat.reduceEqDiff] at q8
          rw [HKO.out] at q8
          have KS := Lib.hid (And.intro c0 q8)
          have KSM := Lib.hid (fun w' (m : Mod [] wq.drew w') => And.intro (m.cell' KS.out.1 (by simp)) (m.cell' KS.out.2 (by simp)))
          have nn : w.heap.size + 1 ≠ sv := by have := HLT.out sv (by simp [RbL]); omega
          have nn2 : w.heap.size + 1 ≠ w.heap.size := by omega
          have SC := Lib.hid (rsome_calls wq.drew X rT x.t 0 256 ko 0 (pOf ko) (pOf_eq ko) (R6.out.s.mod0 (Mod.refl [] wq).drew).tb)
          clear c0 q8
          go_wp2
          first
            | (go_region_held3 (fun w' => w'.cell? ⟨sv, 0, none⟩ = some (.pointer (some ⟨rT, 0, none⟩)) ∧ w'.cell? ⟨w.heap.size, 8, none⟩ = some (.int .i64 ko))
                (first | (with_reducible exact KSM.out _ (Mod.refl _ _)) | (with_reducible exact KSM.out _ (by assumption)) | (simp [u1, u2, nn, nn2, World.cell?_setCell_far]))
                (first
                  | (go_at_call 48; (with_reducible refine SC.out.mono ?_); rintro e w6 ⟨v6, rfl, o6, m6⟩; obtain ⟨p6, c6, rfl⟩ := own_len o6; obtain ⟨u1, u2⟩ := KSM.out w6 m6; have RZ := Lib.hid (R6.out.next (Mod.of_drew m6)); obtain ⟨k0, k1, k2, k3, k4, k5, k6, k7, k8, k9⟩ := rans_facts RZ.out.z)))
            | fail
          all_goals
            have O6 := Lib.hid (own_base o6 (Nat.zero_le _))
            clear o6 m6
            go_wp2
            (try simp only [Exit.inBlock, Exit.then])
            exact bodyPost_ret (rans_res rfl rfl (put5_arr RZ.out.z _ _ _ _ _)) rfl (by rw [E.out, HKO.out]; exact rdo_end (y := ({ x with bb := upd x.bb ko c.c }, ⟨0, 0, [], someL x.t 0 256 (pOf ko), []⟩)) (by omega) RZ.out.s RZ.out.m RZ.out.z (own_nil _ _ _ _) O6.out (own_nil _ _ _ _))
set_option maxRecDepth 100000 in
set_option maxHeartbeats 8000000 in
theorem rdo_done (w : World) (X : List Nat) (N0 sv rT bB gT gS gD cap gy cy : Nat) (v : Value) (x : GS) (c : CmdT) (hS : RSv w X N0 sv rT bB gT gS gD cap gy cy v x) (hX : ∀ z, z ∈ X → z < w.heap.size) (hk : c.k = 7) :
    Calls Tryd.prog 21 #[.pointer (some ⟨sv, 0, none⟩), .agg c.arr] w (RDoP w X N0 sv rT bB gT gS gD cap gy cy (x.done c)) := by
  obtain ⟨w1, hw1⟩ : ∃ w1, w1 = (w.alloc (.cells c.arr 59)).alloc (.cells zeroAns 57) := ⟨_, rfl⟩
  have R1 := rcm_start c hS
  rw [← hw1] at R1
  have HR1 := Lib.hid R1
  have HW1 := Lib.hid hw1
  have HLT := Lib.hid hS.lt
  have HX := Lib.hid hX
  have HX1 := Lib.hid (show ∀ z, z ∈ X → z < w1.heap.size from fun z hz => by have := hX z hz; have := R1.m.size; omega)
  have HIV := Lib.hid hS.inv
  have HNE := Lib.hid hS.ne
  have hsz := R1.z.lt
  have y0 := R1.a.cell 0 (by omega)
  have y1 := R1.a.cell 1 (by omega)
  have y2 := R1.a.cell 2 (by omega)
  have y3 := R1.a.cell 3 (by omega)
  have y4 := R1.a.cell 4 (by omega)
  have y5 := R1.a.cell 5 (by omega)
  have y6 := R1.a.cell 6 (by omega)
  have y7 := R1.a.cell 7 (by omega)
  have y8 := R1.a.cell 8 (by omega)
  simp only [CmdT.f, if_true, if_false, Nat.reduceEqDiff] at y0 y1 y2 y3 y4 y5 y6 y7 y8
  rw [hk] at y0
  have CR := rrecovering_calls w1 sv bB gT gS gD cap x.u x.s x.d c R1.s.c1 R1.s.bk
  unfold CmdT.arr at CR
  rw [hk] at CR
  have CR := Lib.hid CR
  by_cases hr : recB x.u x.d c.c c.o = 0
  rotate_left
  · have E := Lib.hid (show x.done c = (x, .err (recB x.u x.d c.c c.o)) by unfold GS.done; rw [if_pos (by rw [recB_of]; exact hr)]; rfl)
    obtain ⟨re, hre⟩ : ∃ re, re = recB x.u x.d c.c c.o := ⟨_, rfl⟩
    rw [← hre] at E CR hr
    have hr1 : (re != 0) = true := by simpa using hr
    clear hr hre
    rw [hw1] at y0 y1 y2 y3 y4 y5 y6 y7 y8
    clear hw1 R1 hS hX
    unfold zeroAns at HW1 y0 y1 y2 y3 y4 y5 y6 y7 y8
    unfold CmdT.arr at HW1 y0 y1 y2 y3 y4 y5 y6 y7 y8 ⊢
    rw [hk] at HW1 y0 y1 y2 y3 y4 y5 y6 y7 y8 ⊢
    clear hk
    go_enter Tryd.func21, Tryd.ntmps21
    go_wp2_with fail
    rw [← HW1.out] at *
    refine CR.out.mono ?_
    rintro e w2 ⟨rfl, m2⟩
    have R2 := Lib.hid (HR1.out.next m2)
    obtain ⟨g0, g1, g2, g3, g4, g5, g6, g7, g8, g9⟩ := rans_facts R2.out.z
    clear m2
    go_wp2
    (try simp only [Exit.inBlock, Exit.then])
    exact bodyPost_ret (rans_res rfl rfl (put5_arr R2.out.z _ _ _ _ _)) rfl (R2.out.err E.out)
  · have E1 := Lib.hid (show ∀ z, (if x.recE c ≠ 0 then (x, GA.err (x.recE c)) else z) = z from fun z => if_neg (by rw [recB_of, hr]; simp))
    obtain ⟨hlv, hdd⟩ := recB_ok hr
    have hoo := dead_in hdd
    have hcc := lives_in hlv
    obtain ⟨ko, hko⟩ : ∃ ko : Nat, c.o = ko := ⟨c.o.toNat, by omega⟩
    have ko8 : ko < 8 := by omega
    have hkt : c.o.toNat = ko := by omega
    have HKT := Lib.hid hkt
    have HCC := Lib.hid hcc
    have HKO := Lib.hid hko
    obtain ⟨by0, hby0⟩ : ∃ by0, by0 = x.bb ko := ⟨_, rfl⟩
    have HBY := Lib.hid hby0
    have HBB := Lib.hid (HIV.out.by1 ko ko8)
    rw [hr] at CR
    rw [hko] at y8 CR
    clear hlv hdd hr hoo hcc hkt hby0
    rw [hw1] at y0 y1 y2 y3 y4 y5 y6 y7 y8
    clear hw1 R1 hS hX
    unfold zeroAns at HW1 y0 y1 y2 y3 y4 y5 y6 y7 y8
    unfold CmdT.arr at HW1 y0 y1 y2 y3 y4 y5 y6 y7 y8 ⊢
    rw [hko] at HW1
    rw [hko]
    rw [hk] at HW1 y0 ⊢
    clear hk hko
    go_enter Tryd.func21, Tryd.ntmps21
    go_wp2_with fail
    rw [← HW1.out] at *
    refine CR.out.mono ?_
    rintro e w2 ⟨rfl, m2⟩
    have R2 := Lib.hid (HR1.out.next m2)
    have i0 : (0 : Int) ≤ (ko : Int) := by omega
    have i1 : (ko : Int) < 8 := by omega
    clear m2 y0 y1 y2 y3 y4 y5 y6 y7 y8 CR
    have c4 := R2.out.s.c4
    have q1 := R2.out.a.cell 1 (by omega)
    have q8 := R2.out.a.cell 8 (by omega)
    have qb := R2.out.s.by'.cell ko ko8
    simp only [CmdT.f, if_true, if_false, Nat.reduceEqDiff] at q1 q8
    rw [HKO.out] at q8
    rw [← HBY.out] at qb
    go_upto_region 38 with (fail)
    by_cases b1 : by0 = c.c
    rotate_left
    · have t1 : (by0 != c.c) = true := by simpa using b1
      have E := Lib.hid (show x.done c = (x, .err 150) by
        unfold GS.done
        rw [E1.out, HKT.out, ← HBY.out, if_pos b1])
      clear b1
      go_quiet (fail)
      have R3 := Lib.hid (R2.out.next ((Mod.refl [] w2).drewN nq))
      clear c4 q1 q8 qb
      generalize w2.drewN nq = wz at *
      obtain ⟨g0, g1, g2, g3, g4, g5, g6, g7, g8, g9⟩ := rans_facts R3.out.z
      go_wp2
      (try simp only [Exit.inBlock, Exit.then])
      exact bodyPost_ret (rans_res rfl rfl (put5_arr R3.out.z _ _ _ _ _)) rfl (R3.out.err E.out)
    · have t1 : (by0 != c.c) = false := by simpa using b1
      have E := Lib.hid (show x.done c = GS.serve { x with t := Go.Proofs.YtijjbkkcienfgaaDoor.setT x.t c.o 0 256 (fun _ => 0), u := forgU x.u x.d c.o, d := forgD x.d c.o, bb := upd x.bb ko (-1) } [] by
        unfold GS.done
        rw [E1.out, HKT.out, ← HBY.out, if_neg (by simp [b1])])
      clear b1
      go_quiet (fail)
      have R3 := Lib.hid (R2.out.next ((Mod.refl [] w2).drewN nq))
      clear c4 q1 q8 qb
      generalize w2.drewN nq = wz at *
      have c0 := R3.out.s.c0
      have q8 := R3.out.a.cell 8 (by omega)
      simp only [CmdT.f, if_true, if_false, Nat.reduceEqDiff] at q8
      rw [HKO.out] at q8
      have KS := Lib.hid (And.intro c0 q8)
      have n1 : sv ∉ [rT] := by simpa using HNE.out.1
      have n2 : w.heap.size ∉ [rT] := fun e => by have := List.mem_singleton.1 e; have := HLT.out rT (by simp [RbL]); omega
      have KSM := Lib.hid (fun w' (m : Mod [rT] wz.drew w') => And.intro (m.cell' KS.out.1 n1) (m.cell' KS.out.2 n2))
      have DC := Lib.hid (rdrop_calls wz.drew X rT x.t ko (R3.out.s.mod0 (Mod.refl [] wz).drew).tb (fun z hz => by have := HX.out z hz; have := R3.out.m.size; show z < wz.heap.size; omega))
      clear n1 n2 c0 q8
      go_wp2
      first
        | (go_region_held3 (fun w' => w'.cell? ⟨sv, 0, none⟩ = some (.pointer (some ⟨rT, 0, none⟩)) ∧ w'.cell? ⟨w.heap.size, 8, none⟩ = some (.int .i64 ko))
            (first | exact KS.out | exact KSM.out _ (by assumption))
            (first
              | (go_at_call 49; (with_reducible refine DC.out.mono ?_); rintro e w4 ⟨v4, rfl, o4, t4, m4⟩)))
        | fail
      have s4 := RSv.setT (R3.out.s.mod0 (Mod.refl [] wz).drew) t4 m4
      have R4 := Lib.hid (R3.out.own HLT.out s4 (Mod.of_drew m4) (fun z hz => by have := List.mem_singleton.1 hz; subst this; simp [RbL]))
      clear o4 t4 m4 s4 KS KSM DC
      generalize w4 = wa at *
      have c1 := R4.out.s.c1
      have q8 := R4.out.a.cell 8 (by omega)
      simp only [CmdT.f, if_true, if_false, Nat.reduceEqDiff] at q8
      rw [HKO.out] at q8
      have KS := Lib.hid (And.intro c1 q8)
      have n1 : sv ∉ [gT, gS, gD] := by simp; exact ⟨HNE.out.2.2.1, HNE.out.2.2.2.1, HNE.out.2.2.2.2.1⟩
      have n2 : w.heap.size ∉ [gT, gS, gD] := fun e => by
        have h : w.heap.size ∈ RbL sv rT bB gT gS gD gy := by simp at e; rcases e with e | e | e <;> rw [e] <;> simp [RbL]
        have := HLT.out _ h
        omega
      have KSM := Lib.hid (fun w' (m : Mod [gT, gS, gD] wa.drew w') => And.intro (m.cell' KS.out.1 n1) (m.cell' KS.out.2 n2))
      have FC := Lib.hid (rbForgive_calls wa.drew bB gT gS gD cap x.u x.s x.d ko (R4.out.s.mod0 (Mod.refl [] wa).drew).bk)
      clear n1 n2 c1 q8
      go_wp2
      first
        | (go_region_held3 (fun w' => w'.cell? ⟨sv, 1, none⟩ = some (.pointer (some ⟨bB, 0, none⟩)) ∧ w'.cell? ⟨w.heap.size, 8, none⟩ = some (.int .i64 ko))
            (first | exact KS.out | exact KSM.out _ (by assumption))
            (first
              | (go_at_call 50; (with_reducible refine FC.out.mono ?_); rintro e w5 ⟨rfl, b5, m5⟩)))
        | fail
      have s5 := RSv.setB (R4.out.s.mod0 (Mod.refl [] wa).drew) b5 m5
      have R5 := Lib.hid (R4.out.own HLT.out s5 (Mod.of_drew m5) (fun z hz => by simp at hz; rcases hz with e | e | e <;> subst e <;> simp [RbL]))
      clear b5 m5 s5 KS KSM FC
      generalize w5 = wb at *
      have c4 := R5.out.s.c4
      have q8 := R5.out.a.cell 8 (by omega)
      simp only [CmdT.f, if_true, if_false, Nat.reduceEqDiff] at q8
      rw [HKO.out] at q8
      have qb := R5.out.s.by'.cell ko ko8
      have qf := R5.out.s.by'.free ko
      have KS := Lib.hid (And.intro c4 q8)
      have n1 : sv ∉ [gy] := by simpa using HNE.out.2.2.2.2.2.1
      have n2 : w.heap.size ∉ [gy] := fun e => by have := List.mem_singleton.1 e; have := HLT.out gy (by simp [RbL]); omega
      have KSM := Lib.hid (fun w' (m : Mod [gy] wb.drew w') => And.intro (m.cell' KS.out.1 n1) (m.cell' KS.out.2 n2))
      have s6 := RSv.setY (i := ko) (u := -1) (R5.out.s.mod0 (Mod.refl [] wb).drew) (inv_bb R5.out.s.inv ko (-1) (by omega))
      have m6 : Mod [gy] wb (wb.drew.setCell ⟨gy, ko, none⟩ (.int .i64 (-1))) := ((Mod.refl [gy] wb).drew).setCell (.inl (by simp)) _
      have R6 := Lib.hid (R5.out.own HLT.out s6 m6 (fun z hz => by have := List.mem_singleton.1 hz; subst this; simp [RbL]))
      clear n1 n2 s6 m6
      go_wp2
      go_cut [0] (fun s0 wx => s0 = .pointer (some ⟨sv, 0, none⟩) ∧ RCm w X N0 sv rT bB gT gS gD cap gy cy v { x with t := Go.Proofs.YtijjbkkcienfgaaDoor.setT x.t ko 0 256 (fun _ => 0), u := forgU x.u x.d ko, d := forgD x.d ko, bb := upd x.bb ko (-1) } c wx)
      case first =>
        first
          | (go_region_held3 (fun w' => w'.cell? ⟨sv, 4, none⟩ = some (.slice (some ⟨gy, 0, none⟩) 8 cy) ∧ w'.cell? ⟨w.heap.size, 8, none⟩ = some (.int .i64 ko))
              (first | exact KS.out | exact KSM.out _ ((Mod.refl _ _).setCell (.inl (by simp)) _) | exact KSM.out _ (((Mod.refl _ _).setCell (.inl (by simp)) _).drew))
              (fail))
          | fail
        all_goals
          go_wp2
          go_meet
          exact ⟨rfl, R6.out⟩
      case rest =>
        obtain ⟨rfl, hR6⟩ := hcut
        have R7 := Lib.hid hR6
        have SV := Lib.hid (rserve_calls wc X N0 sv rT bB gT gS gD cap gy cy _ _ hR6.s (fun z hz => by have := HX.out z hz; have := hR6.m.size; omega))
        clear hR6 KS KSM c4 q8 qb qf
        go_wp2_with fail
        refine SV.out.mono ?_
        rintro e w8 ⟨gv, v', rfl, og, s8, m8⟩
        obtain ⟨p6, c6, rfl⟩ := own_len og
        have R8 := Lib.hid (R7.out.own HLT.out s8 m8 sv_in)
        have FIN := Lib.hid (RCm.served (zs := []) R8.out (own_base og (Nat.zero_le _)) (own_nil _ _ _ _))
        obtain ⟨g0, g1, g2, g3, g4, g5, g6, g7, g8, g9⟩ := rans_facts R8.out.z
        clear og s8 m8
        go_wp2
        (try simp only [Exit.inBlock, Exit.then])
        exact bodyPost_ret (rans_res rfl rfl (put5_arr R8.out.z _ _ _ _ _)) rfl (by rw [E.out, HKO.out]; exact FIN.out)
theorem rans_new2 (w : World) (o : Obj) (e n : Int) (gv rv dv : Value) : Arr ((w.alloc o).alloc (.cells #[.int .i64 e, .int .i64 n, gv, rv, dv] 57)) (w.heap.size + 1) 57 5 (ansF e n gv rv dv) := by
  have h := rans_new (w.alloc o) e n gv rv dv
  have e : (w.alloc o).heap.size = w.heap.size + 1 := by simp
  rw [e] at h
  exact h
theorem rdo_err_new {w : World} {X : List Nat} {N0 sv rT bB gT gS gD cap gy cy : Nat} {v : Value} {x : GS} {y : GS × GA} {e : Int} {o o' : Obj} (h0 : RSv w X N0 sv rT bB gT gS gD cap gy cy v x) (hy : y = (x, .err e)) :
    RDoP w X N0 sv rT bB gT gS gD cap gy cy y (.returned (.agg #[.int .i64 e, .int .i64 0, .slice none 0 0, .slice none 0 0, .slice none 0 0])) ((w.alloc o).alloc o') := by
  subst hy
  have m : Mod [] w ((w.alloc o).alloc o') := ((Mod.refl _ _).alloc _).alloc _
  exact ⟨_, _, _, v, rfl, own_nil _ _ _ _, own_nil _ _ _ _, own_nil _ _ _ _, h0.mod0 m, m.nil⟩
set_option maxRecDepth 100000 in
set_option maxHeartbeats 4000000 in
theorem rdo_other (w : World) (X : List Nat) (N0 sv rT bB gT gS gD cap gy cy : Nat) (v : Value) (x : GS) (c : CmdT) (hS : RSv w X N0 sv rT bB gT gS gD cap gy cy v x) (hk : c.k < 1 ∨ 8 < c.k) :
    Calls Tryd.prog 21 #[.pointer (some ⟨sv, 0, none⟩), .agg c.arr] w (RDoP w X N0 sv rT bB gT gS gD cap gy cy (x.Do c)) := by
  obtain ⟨w1, hw1⟩ : ∃ w1, w1 = (w.alloc (.cells c.arr 59)).alloc (.cells zeroAns 57) := ⟨_, rfl⟩
  have R1 := rcm_start c hS
  rw [← hw1] at R1
  have HR1 := Lib.hid R1
  have HW1 := Lib.hid hw1
  have hsz := R1.z.lt
  have HS := Lib.hid hS
  have y0 := R1.a.cell 0 (by omega)
  simp only [CmdT.f, if_true, if_false, Nat.reduceEqDiff] at y0
  have E := Lib.hid (do_out (x := x) hk)
  obtain ⟨g0, g1, g2, g3, g4, g5, g6, g7, g8, g9⟩ := rans_facts R1.z
  have k1 : (c.k == 1) = false := by simp; omega
  have k2 : (c.k == 2) = false := by simp; omega
  have k3 : (c.k == 3) = false := by simp; omega
  have k4 : (c.k == 4) = false := by simp; omega
  have k5 : (c.k == 5) = false := by simp; omega
  have k6 : (c.k == 6) = false := by simp; omega
  have k7 : (c.k == 7) = false := by simp; omega
  have k8 : (c.k == 8) = false := by simp; omega
  rw [hw1] at y0 g0 g1 g2 g3 g4 g5 g6 g7 g8 g9
  clear hw1 R1 hS hk
  unfold zeroAns at HW1 y0 g0 g1 g2 g3 g4 g5 g6 g7 g8 g9
  unfold CmdT.arr at HW1 y0 g0 g1 g2 g3 g4 g5 g6 g7 g8 g9 ⊢
  go_enter Tryd.func21, Tryd.ntmps21
  go_wp2
  (try simp only [Exit.inBlock, Exit.then])
  exact bodyPost_ret (rans_res rfl rfl (rans_new2 w _ 1 0 (.slice none 0 0) (.slice none 0 0) (.slice none 0 0))) rfl (rdo_err_new HS.out E.out)
theorem rdo_calls (w : World) (X : List Nat) (N0 sv rT bB gT gS gD cap gy cy : Nat) (v : Value) (x : GS) (c : CmdT) (hS : RSv w X N0 sv rT bB gT gS gD cap gy cy v x) (hX : ∀ z, z ∈ X → z < w.heap.size) :
    Calls Tryd.prog 21 #[.pointer (some ⟨sv, 0, none⟩), .agg c.arr] w (RDoP w X N0 sv rT bB gT gS gD cap gy cy (x.Do c)) := by
  by_cases h : c.k < 1 ∨ 8 < c.k
  · exact rdo_other w X N0 sv rT bB gT gS gD cap gy cy v x c hS h
  · have : c.k = 1 ∨ c.k = 2 ∨ c.k = 3 ∨ c.k = 4 ∨ c.k = 5 ∨ c.k = 6 ∨ c.k = 7 ∨ c.k = 8 := by omega
    rcases this with hk | hk | hk | hk | hk | hk | hk | hk
    · rw [show x.Do c = x.ask c by simp [GS.Do, hk]]; exact rdo_ask w X N0 sv rT bB gT gS gD cap gy cy v x c hS hX hk
    · rw [show x.Do c = x.release c by simp [GS.Do, hk]]; exact rdo_release w X N0 sv rT bB gT gS gD cap gy cy v x c hS hX hk
    · rw [show x.Do c = x.weaken c by simp [GS.Do, hk]]; exact rdo_weaken w X N0 sv rT bB gT gS gD cap gy cy v x c hS hX hk
    · rw [show x.Do c = x.renew c by simp [GS.Do, hk]]; exact rdo_renew w X N0 sv rT bB gT gS gD cap gy cy v x c hS hX hk
    · rw [show x.Do c = x.sweep c by simp [GS.Do, hk]]; exact rdo_sweep w X N0 sv rT bB gT gS gD cap gy cy v x c hS hX hk
    · rw [show x.Do c = x.recover c by simp [GS.Do, hk]]; exact rdo_recover w X N0 sv rT bB gT gS gD cap gy cy v x c hS hX hk
    · rw [show x.Do c = x.done c by simp [GS.Do, hk]]; exact rdo_done w X N0 sv rT bB gT gS gD cap gy cy v x c hS hX hk
    · rw [show x.Do c = x.cancel c by simp [GS.Do, hk]]; exact rdo_cancel w X N0 sv rT bB gT gS gD cap gy cy v x c hS hX hk
end Go.Proofs.YtijjbkkcienfgaaDoor.Rf
