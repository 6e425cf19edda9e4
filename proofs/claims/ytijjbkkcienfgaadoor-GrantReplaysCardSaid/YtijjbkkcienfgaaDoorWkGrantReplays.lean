/- The walk of the law GrantReplays: bytes come to the same commands on both sides, a log to the same service, a command to the same bytes, and these back to it. Premises: the whole range and the table of kinds lie as laid. -/
import Derived.Test.YtijjbkkcienfgaaDoorProg
import Derived.Test.YtijjbkkcienfgaaDoorFA
namespace Go.Proofs.YtijjbkkcienfgaaDoor
open Go.RowKit Rf Fg
set_option linter.unusedVariables false
set_option linter.unusedSimpArgs false
attribute [local go_sem ↓] Go.wp_at_zero Go.wp_at_succ

theorem logArg_of {W : World} {v0 : Value} (c0 : CellOk W (.sl [.str]) v0) : ∃ p n cap f, v0 = .slice p n cap ∧ n ≤ cap ∧ cap ≤ 9223372036854775807 ∧ LogA W p n f := by
  obtain ⟨n, f, hA, hf⟩ := c0.slA (by simp)
  obtain ⟨A, cap0, rfl, hn, hcap, hcell⟩ := hA.ex
  have key : ∀ i, ∃ s : ByteArray, i < n → f i 0 = .string s := fun i => by
    by_cases hi : i < n
    · obtain ⟨s, e, _⟩ := (hf i 0 _ hi rfl).str_inv
      exact ⟨s, fun _ => e⟩
    · exact ⟨⟨#[]⟩, fun h => absurd h hi⟩
  refine ⟨A, n, cap0, fun i => Classical.choose (key i), rfl, hn, by unfold maxLen at hcap; omega, ⟨fun h => ?_⟩⟩
  obtain ⟨b, off, e, hc⟩ := hcell h
  refine ⟨b, off, e, fun i hi => ?_⟩
  have := hc i 0 hi (by simp)
  simp only [List.length_cons, List.length_nil, Nat.zero_add, Nat.mul_one, Nat.add_zero] at this
  rw [this]
  exact congrArg some (Classical.choose_spec (key i) hi)
theorem cmd_of {W : World} {s : Array Value} (h : CellsOk W [.int .i64, .int .i64, .int .i64, .int .i64, .int .i64, .int .i64, .int .i64, .int .i64, .int .i64] s.toList) :
    ∃ c : CmdT, s = c.arr ∧ ∀ i, -9223372036854775808 ≤ cv c i ∧ cv c i ≤ 9223372036854775807 := by
  obtain ⟨hl, h2⟩ := h
  have key : ∀ j, j < 9 → ∃ n : Int, s.toList[j]? = some (.int .i64 n) ∧ (Lit.int .i64 n).wf = true := fun j hj => by
    have hj2 : j < s.toList.length := by rw [hl]; exact hj
    have hs : [Sh.int .i64, .int .i64, .int .i64, .int .i64, .int .i64, .int .i64, .int .i64, .int .i64, .int .i64][j]? = some (.int .i64) := by
      match j, hj with
      | 0, _ | 1, _ | 2, _ | 3, _ | 4, _ | 5, _ | 6, _ | 7, _ | 8, _ => rfl
    obtain ⟨n, e, w⟩ := (h2 j _ _ hs (List.getElem?_eq_getElem hj2)).int_inv
    exact ⟨n, by rw [List.getElem?_eq_getElem hj2, e], w⟩
  obtain ⟨a0, e0, w0⟩ := key 0 (by omega)
  obtain ⟨a1, e1, w1⟩ := key 1 (by omega)
  obtain ⟨a2, e2, w2⟩ := key 2 (by omega)
  obtain ⟨a3, e3, w3⟩ := key 3 (by omega)
  obtain ⟨a4, e4, w4⟩ := key 4 (by omega)
  obtain ⟨a5, e5, w5⟩ := key 5 (by omega)
  obtain ⟨a6, e6, w6⟩ := key 6 (by omega)
  obtain ⟨a7, e7, w7⟩ := key 7 (by omega)
  obtain ⟨a8, e8, w8⟩ := key 8 (by omega)
  refine ⟨⟨a0, a1, a2, a3, a4, a5, a6, a7, a8⟩, ?_, fun i => ?_⟩
  · apply Array.ext'
    apply List.ext_getElem?
    intro j
    by_cases hj : j < 9
    · match j, hj with
      | 0, _ => exact e0
      | 1, _ => exact e1
      | 2, _ => exact e2
      | 3, _ => exact e3
      | 4, _ => exact e4
      | 5, _ => exact e5
      | 6, _ => exact e6
      | 7, _ => exact e7
      | 8, _ => exact e8
    · rw [List.getElem?_eq_none (by rw [hl]; show 9 ≤ j; omega), List.getElem?_eq_none (by show 9 ≤ j; omega)]
  · unfold cv
    (repeat' split) <;> exact bd_i64 (by assumption)
theorem enc_small (c : CmdT) : (encS c).size ≤ 1000000 := by
  unfold encS
  split
  · rw [txt_size]
    have := eB_len c 9
    omega
  · decide
theorem enc_back {c : CmdT} (hb : ∀ i, -9223372036854775808 ≤ cv c i ∧ cv c i ≤ 9223372036854775807) :
    (encE c = 0 ∧ decE (encS c) = 0 ∧ decC (encS c) = c) ∨ (encE c = 1 ∧ decE (encS c) = 30) := by
  by_cases h : eOk c 9 = true
  · have := back h (fun i => (hb i).2)
    exact .inl ⟨by unfold encE; rw [if_pos h], this.2, this.1⟩
  · exact .inr ⟨by unfold encE; rw [if_neg h], back_none h⟩
set_option maxRecDepth 100000 in
set_option maxHeartbeats 16000000 in
theorem grantReplays_walk (W : World) (t0 : Whole W) (t1 : Kd W) (v0 : Value) (c0 : CellOk W (.sl [.str]) v0)
    (s1 : Array Value) (c1 : CellsOk W [.int .i64, .int .i64, .int .i64, .int .i64, .int .i64, .int .i64, .int .i64, .int .i64, .int .i64] s1.toList) :
    Calls Tryd.prog 10 #[v0, .agg s1] W fun e w' => e = .returned (.bool true) ∧ Below W.heap.size W w' := by
  obtain ⟨p0, n, cap0, f, rfl, hn, hcap, hA⟩ := logArg_of c0
  obtain ⟨c, rfl, hb⟩ := cmd_of c1
  clear c0 c1
  obtain ⟨w1, hw1⟩ : ∃ w1, w1 = W.alloc (.cells c.arr 37) := ⟨_, rfl⟩
  have m1 : Mod [] W w1 := by rw [hw1]; exact (Mod.refl _ _).alloc _
  have B1 := Lib.hid (show Arr w1 W.heap.size 37 9 c.f by rw [hw1]; exact cmd_new W _ c)
  have HT := Lib.hid (And.intro (Sv.whole_mod t0 m1 (by simp)) (t1.mod m1 (by simp)))
  have HA := Lib.hid (hA.mod m1)
  have HB := Lib.hid hb
  have HW1 := Lib.hid hw1
  have M1 := Lib.hid m1
  clear t0 t1 hA hb hw1 m1
  unfold CmdT.arr at HW1 ⊢
  by_cases h40 : 30 < n
  · have hi : (30 : Int) < (n : Int) := by omega
    go_enter Tryd.func10, Tryd.ntmps10
    go_upto_region 1 with (fail)
    rw [← HW1.out]
    go_wp2_with (go_at_call 12; refine (shown_calls _ HT.out.1 HT.out.2).mono ?_; rintro e w' ⟨rfl, m⟩)
    go_ret
    exact ⟨rfl, (M1.out.trans m).below (Nat.le_refl _) (by simp)⟩
  have h5 : decide (30 < n) = false := by simpa using h40
  have h5' : decide ((30 : Int) < (n : Int)) = false := decide_eq_false (by omega)
  have h5n : ¬ (30 : Int) < (n : Int) := by omega
  go_enter Tryd.func10, Tryd.ntmps10
  go_upto_region 1 with (fail)
  rw [← HW1.out]
  go_wp2_with fail
  refine (shown_calls _ HT.out.1 HT.out.2).mono ?_
  rintro e z2 ⟨rfl, m2⟩
  have M2 := Lib.hid m2
  clear m2
  go_wp2
  go_loopw [5] (fun i wr => ∃ k : Nat, k ≤ n ∧ i = .int .i64 k ∧ Mod [] w1 wr ∧ ∀ q, q < k → (f q).size ≤ 1000000) (fun i _ => n - (intOf i).toNat)
  case atStart => exact ⟨0, Nat.zero_le _, rfl, M2.out, fun q hq => absurd hq (by omega)⟩
  case round =>
    obtain ⟨k, hk, rfl, hM, hS⟩ := hrel
    by_cases hlt : k < n
    · have i0 : (0 : Int) ≤ (k : Int) := by omega
      have i1 : (k : Int) < (n : Int) := by omega
      obtain ⟨b, off, rfl, y0⟩ := HA.out.at' hM hlt
      obtain ⟨s, hs⟩ : ∃ s, s = f k := ⟨_, rfl⟩
      rw [← hs] at y0
      have HS0 := Lib.hid hs
      clear hs
      by_cases hz : 1024 < s.size
      · have hz1 : (1024 : Int) < (s.size : Int) := by omega
        have hz2 : decide ((1024 : Int) < (s.size : Int)) = true := decide_eq_true hz1
        have hz3 : decide (1024 < s.size) = true := decide_eq_true hz
        have HT2 := Lib.hid (And.intro (Sv.whole_mod HT.out.1 hM (by simp)) (HT.out.2.mod hM (by simp)))
        have HM := Lib.hid hM
        clear hM hS
        go_wp2_with fail
        refine (shown_calls _ HT2.out.1 HT2.out.2).mono ?_
        rintro e w' ⟨rfl, m⟩
        have FIN := Lib.hid ((M1.out.trans HM.out).trans m)
        clear m
        go_wp2
        go_ret
        exact ⟨rfl, FIN.out.below (Nat.le_refl _) (by simp)⟩
      have hz1 : ¬ (1024 : Int) < (s.size : Int) := by omega
      have hz2 : decide ((1024 : Int) < (s.size : Int)) = false := decide_eq_false hz1
      have hz3 : decide (1024 < s.size) = false := decide_eq_false hz
      have HS := Lib.hid (fun q (hq : q < k + 1) => (by
        by_cases e : q = k
        · rw [e, ← HS0.out]; omega
        · exact hS q (by omega) : (f q).size ≤ 1000000))
      have DC := decode_calls wr s (by omega)
      unfold DecP at DC
      obtain ⟨C, hC⟩ : ∃ C, C = decC s := ⟨_, rfl⟩
      obtain ⟨E, hE⟩ : ∃ E, E = decE s := ⟨_, rfl⟩
      rw [← hC, ← hE] at DC
      have DC := Lib.hid DC
      have HM := Lib.hid hM
      have HCE := Lib.hid (And.intro hC hE)
      clear hM hS hC hE
      go_wp2_with fail
      refine DC.out.mono ?_
      rintro e w2 ⟨rfl, m2⟩
      have P9 := put9_new w2 37 C
      have T9 := Lib.hid (arr_there (cmd_new w2 37 zCmd))
      have M3 := Lib.hid (HM.out.trans m2)
      have Q9 := Lib.hid (m2.cell' y0 (by simp))
      have P9 := Lib.hid P9
      clear m2 DC y0
      go_wp2_with (refine store9 w2.heap.size C.k C.c C.q C.n C.l C.a C.b C.m C.o rfl _ _ rfl rfl rfl T9.out ?_; intro w9 hw9; have HW9 := Lib.hid (show w9 = put9 (w2.alloc (.cells #[.int .i64 0, .int .i64 0, .int .i64 0, .int .i64 0, .int .i64 0, .int .i64 0, .int .i64 0, .int .i64 0, .int .i64 0] 37)) w2.heap.size C from hw9); clear hw9; have A9 : Hid (Arr w9 w2.heap.size 37 9 C.f) := (Lib.hid (by rw [HW9.out]; exact P9.out.1)); have M9 : Hid (Mod [] w2 w9) := (Lib.hid (by rw [HW9.out]; exact P9.out.2)); have y0 := M9.out.cell' Q9.out (by simp))
      have DC := rdecode_calls w9 s (by omega)
      unfold RDecP at DC
      rw [← HCE.out.1, ← HCE.out.2] at DC
      have DC := Lib.hid DC
      go_wp2_with fail
      refine DC.out.mono ?_
      rintro e w3 ⟨rfl, m3⟩
      have R9 := Lib.hid (put9_new w3 59 C)
      have U9 := Lib.hid (arr_there (cmd_new w3 59 zCmd))
      have M4 := Lib.hid ((M3.out.trans M9.out).trans m3)
      have A3 := Lib.hid (A9.out.mod m3 (by simp))
      have hne : (E != E) = false := by simp
      clear m3 DC y0
      go_wp2_with (refine rstore9 w3.heap.size C.k C.c C.q C.n C.l C.a C.b C.m C.o rfl _ _ rfl rfl rfl U9.out ?_; intro wx hwx; have HWX := Lib.hid (show wx = put9 (w3.alloc (.cells #[.int .i64 0, .int .i64 0, .int .i64 0, .int .i64 0, .int .i64 0, .int .i64 0, .int .i64 0, .int .i64 0, .int .i64 0] 59)) w3.heap.size C from hwx); clear hwx; have AX : Arr wx w3.heap.size 59 9 C.f := (by rw [HWX.out]; exact R9.out.1); have MX : Hid (Mod [] w3 wx) := (Lib.hid (by rw [HWX.out]; exact R9.out.2)); have AY := A3.out.mod MX.out (by simp); obtain ⟨c0, c1, c2, c3, c4, c5, c6, c7, c8⟩ := cell9 AX; obtain ⟨d0, d1, d2, d3, d4, d5, d6, d7, d8⟩ := cell9 AY; clear AX AY)
      have FIN := Lib.hid (M4.out.trans MX.out)
      go_roundw
      case rel => exact ⟨k + 1, by omega, by go_num, FIN.out, HS.out⟩
      case measure => simp [intOf]; omega
    · obtain rfl : k = n := by omega
      have hlt' : decide ((k : Int) < (k : Int)) = false := by simp
      have RP := Lib.hid (replay_calls wr p0 k cap0 f (Sv.whole_mod HT.out.1 hM (by simp)) (HT.out.2.mod hM (by simp)) (HA.out.mod hM) hn hcap hS)
      have HM := Lib.hid hM
      have HS := Lib.hid hS
      clear hM hS
      go_wp2_with fail
      refine RP.out.mono ?_
      rintro e w3 ⟨sv, bT, bB, mB, v, rfl, l3⟩
      have M3 := Lib.hid (HM.out.trans l3.m)
      have RR := Lib.hid (rreplay_calls w3 (SvS sv bT bB mB v) (fun z hz => (svS_low l3.s hz).2) p0 k cap0 f (HA.out.mod M3.out) hn hcap HS.out)
      have L3 := Lib.hid l3
      clear l3 RP
      go_wp2_with fail
      refine RR.out.mono ?_
      rintro e w4 ⟨rs, rT, rB, gT, gS, gD, cap, gy, cy, rv, rfl, r4, m4⟩
      obtain ⟨x, hx⟩ : ∃ x, x = rpl f k := ⟨_, rfl⟩
      rw [← hx] at L3 r4
      clear hx
      have L4 := Lib.hid (L3.out.mod0 m4)
      have R4 := Lib.hid r4
      have M4 := Lib.hid (M3.out.trans m4)
      have A4 := B1.out.mod M4.out (by simp)
      obtain ⟨c0, c1, c2, c3, c4, c5, c6, c7, c8⟩ := cell9 A4
      have A4 := Lib.hid A4
      obtain ⟨S, hS⟩ : ∃ S, S = encS c := ⟨_, rfl⟩
      obtain ⟨E, hE⟩ : ∃ E, E = encE c := ⟨_, rfl⟩
      have HSE := Lib.hid (And.intro hS hE)
      have EC := encode_calls w4 c HB.out
      unfold EncP CmdT.arr at EC
      rw [← hS, ← hE] at EC
      have EC := Lib.hid EC
      clear r4 m4 RR L3 hS hE
      go_wp2_with fail
      refine EC.out.mono ?_
      rintro e w5 ⟨rfl, m5⟩
      have M5 := Lib.hid (M4.out.trans m5)
      have L5 := Lib.hid (L4.out.mod0 m5)
      have R5 := Lib.hid (R4.out.mod0 m5)
      have A5 := A4.out.mod m5 (by simp)
      clear c0 c1 c2 c3 c4 c5 c6 c7 c8
      obtain ⟨c0, c1, c2, c3, c4, c5, c6, c7, c8⟩ := cell9 A5
      have A5 := Lib.hid A5
      have EC2 := rencode_calls w5 c HB.out
      unfold EncP CmdT.arr at EC2
      rw [← HSE.out.1, ← HSE.out.2] at EC2
      have EC2 := Lib.hid EC2
      clear m5 EC
      go_wp2_with fail
      refine EC2.out.mono ?_
      rintro e w7 ⟨rfl, m7⟩
      have M7 := Lib.hid (M5.out.trans m7)
      have L7 := Lib.hid (L5.out.mod0 m7)
      have R7 := Lib.hid (R5.out.mod0 m7)
      have A7 := Lib.hid (A5.out.mod m7 (by simp))
      clear m7 EC2 c0 c1 c2 c3 c4 c5 c6 c7 c8
      obtain ⟨vL, hbx, oL, -⟩ := R7.out.tb.ex
      obtain ⟨pL, cL, rfl⟩ := own_len oL
      have HOL := Lib.hid (fun w' (m : Mod [] w7.drew w') => holds_calls w' wr.heap.size sv bT bB mB v x ((L7.out.s.mod0 (Mod.refl [] w7).drew).mod0 m))
      have WAI := Lib.hid (fun w' (m : Mod [] w7.drew w') => waits_calls w' wr.heap.size sv bT bB mB v x ((L7.out.s.mod0 (Mod.refl [] w7).drew).mod0 m))
      have SA := Lib.hid (fun w' v8 b (m : Mod [] w7.drew w') (o : w'.ownsRow b 39 4 v8 (listL x.t).length (hcells (listL x.t))) => same_eq w' v8 (.slice pL (listL x.t).length cL) (listL x.t) (hs_own o) (hs_own (own_mod oL ((Mod.refl [] w7).drew.trans m) (fun _ _ => by simp))))
      have SB := Lib.hid (fun w' v8 b (m : Mod [] w7.drew w') (o : w'.ownsRow b 39 4 v8 x.wl.length (hcells x.wl)) => same_eq w' v8 rv x.wl (hs_own o) (hs_own (own_mod R7.out.wt ((Mod.refl [] w7).drew.trans m) (fun _ _ => by simp))))
      have KS := Lib.hid (And.intro (R7.out.c0) (And.intro (hbx.cell) (R7.out.c2)))
      have KSM := Lib.hid (fun w' (m : Mod [] w7.drew w') => And.intro (m.cell' KS.out.1 (by simp)) (And.intro (m.cell' KS.out.2.1 (by simp)) (m.cell' KS.out.2.2 (by simp))))
      have n2 : (E != E) = false := by simp
      clear hbx oL
      go_wp2
      go_cut [111] (fun s wx => s = .bool false ∧ Mod [] w7 wx)
      case first =>
        first
          | (go_region_held3 (fun w' => w'.cell? ⟨rs, 0, none⟩ = some (.pointer (some ⟨rT, 0, none⟩)) ∧ w'.cell? ⟨rT, 0, none⟩ = some (.slice pL (listL x.t).length cL) ∧ w'.cell? ⟨rs, 2, none⟩ = some rv)
              (first | exact KS.out | exact KSM.out _ (by assumption))
              (first
                | (go_at_call 16; (with_reducible refine (HOL.out _ (Mod.refl _ _)).mono ?_); rintro e9 wb ⟨vb, rfl, ob, mb⟩; have mab := mb)
                | (go_at_call 24; (with_reducible refine (SA.out _ _ _ mab ob).mono ?_); rintro e9 wc ⟨rfl, mc⟩; have mac := mab.trans mc)
                | (go_at_call 25; (with_reducible refine (WAI.out _ mac).mono ?_); rintro e9 wd ⟨vd, rfl, od, md⟩; have mad := mac.trans md)
                | (go_at_call 24; (with_reducible refine (SB.out _ _ _ mad od).mono ?_); rintro e9 we ⟨rfl, me⟩; have mae := mad.trans me)))
          | fail
        have MF := Lib.hid (Mod.of_drew mae)
        clear mb mc md me mab mac mad mae ob od
        go_wp2
        go_meet
        exact ⟨rfl, MF.out⟩
      case rest =>
        obtain ⟨rfl, mc⟩ := hcut
        have A8 := Lib.hid (A7.out.mod mc (by simp))
        have M8 := Lib.hid (M7.out.trans mc)
        clear mc KS KSM HOL WAI SA SB n2
        generalize wc = w8 at *
        have DC := decode_calls w8 S (by rw [HSE.out.1]; exact enc_small c)
        unfold DecP at DC
        obtain ⟨C, hC⟩ : ∃ C, C = decC S := ⟨_, rfl⟩
        obtain ⟨D, hD⟩ : ∃ D, D = decE S := ⟨_, rfl⟩
        rw [← hC, ← hD] at DC
        have DC := Lib.hid DC
        have EB := enc_back HB.out
        rw [← HSE.out.1, ← HSE.out.2, ← hC, ← hD] at EB
        have EB := Lib.hid EB
        clear hC hD
        go_wp2_with fail
        refine DC.out.mono ?_
        rintro e w9 ⟨rfl, m9⟩
        have P9 := Lib.hid (put9_new w9 37 C)
        have T9 := Lib.hid (arr_there (cmd_new w9 37 zCmd))
        have M9 := Lib.hid (M8.out.trans m9)
        have A9 := Lib.hid (A8.out.mod m9 (by simp))
        clear m9 DC
        rcases EB.out with ⟨e1, e2, e3⟩ | ⟨e1, e2⟩
        · subst e1
          subst e2
          subst e3
          clear EB
          go_wp2_with (refine store9 w9.heap.size C.k C.c C.q C.n C.l C.a C.b C.m C.o rfl _ _ rfl rfl rfl T9.out ?_; intro wx hwx; have HWX := Lib.hid (show wx = put9 (w9.alloc (.cells #[.int .i64 0, .int .i64 0, .int .i64 0, .int .i64 0, .int .i64 0, .int .i64 0, .int .i64 0, .int .i64 0, .int .i64 0] 37)) w9.heap.size C from hwx); clear hwx; have AX : Arr wx w9.heap.size 37 9 C.f := (by rw [HWX.out]; exact P9.out.1); have MX : Hid (Mod [] w9 wx) := (Lib.hid (by rw [HWX.out]; exact P9.out.2)); have AY := A9.out.mod MX.out (by simp); obtain ⟨c0, c1, c2, c3, c4, c5, c6, c7, c8⟩ := cell9 AX; obtain ⟨d0, d1, d2, d3, d4, d5, d6, d7, d8⟩ := cell9 AY; clear AX AY)
          go_ret
          exact ⟨rfl, ((M1.out.trans M9.out).trans MX.out).below (Nat.le_refl _) (by simp)⟩
        · subst e1
          subst e2
          clear EB
          go_wp2_with (refine store9 w9.heap.size C.k C.c C.q C.n C.l C.a C.b C.m C.o rfl _ _ rfl rfl rfl T9.out ?_; intro wx hwx; have HWX := Lib.hid (show wx = put9 (w9.alloc (.cells #[.int .i64 0, .int .i64 0, .int .i64 0, .int .i64 0, .int .i64 0, .int .i64 0, .int .i64 0, .int .i64 0, .int .i64 0] 37)) w9.heap.size C from hwx); clear hwx; have MX : Hid (Mod [] w9 wx) := (Lib.hid (by rw [HWX.out]; exact P9.out.2)))
          go_ret
          exact ⟨rfl, ((M1.out.trans M9.out).trans MX.out).below (Nat.le_refl _) (by simp)⟩
end Go.Proofs.YtijjbkkcienfgaaDoor
