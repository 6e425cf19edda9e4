/- Recovering. No condition beyond what stands in each. Being done with a recovery. No condition beyond what stands in each. -/
import Derived.Test.YtijjbkkcienfgaaDoorGr16
namespace Go.Proofs.YtijjbkkcienfgaaDoor
open Go.RowKit
set_option linter.unusedVariables false
set_option linter.unusedSimpArgs false
attribute [local go_sem ↓] Go.wp_at_zero Go.wp_at_succ

theorem Sv.setBy {w1 w2 : World} {B sv bT bB mB : Nat} {v : Value} {x : GS} (h : Sv w1 B sv bT bB mB v x) {bb : Nat → Int} (hB : ByI w2 mB bb) (m : Mod [mB] w1 w2) (hI : GInv { x with bb := bb }) : Sv w2 B sv bT bB mB v { x with bb := bb } := by
  obtain ⟨a1, a2, a3, a4, a5, a6, a7, a8, a9, a10⟩ := h.apart
  have := h.lo
  have := h.l4
  refine ⟨h.arr.mod m (by simpa using Ne.symm a4), h.tb.mod m (by simpa using Ne.symm a5), h.bk.mod m (by simpa using Ne.symm a6), own_mod h.wt m (fun k hk e => ?_), hB, Sv.whole_mod h.wh m (fun e => by have := List.mem_singleton.1 e; omega), hI, h.lo, h.l1, h.l2, h.l3, h.l4⟩
  have := List.mem_singleton.1 e
  subst this
  exact a10 (by simpa using hk)
theorem recB_ok {u : Nat → Int} {d : Nat → Bool} {c o : Int} (h : recB u d c o = 0) : livesB u d c = true ∧ deadV d o = true := by
  unfold recB at h
  cases e1 : livesB u d c <;> cases e2 : deadV d o <;> simp [e1, e2] at h ⊢
/-- Behind the asking whether one may: what stands. -/
structure RcR (w : World) (B sv bT bB mB : Nat) (v : Value) (x : GS) (c : CmdT) (wx : World) : Prop where
  s : Sv wx B sv bT bB mB v x
  m : Mod (SvS sv bT bB mB v) w wx
  z : Arr wx (w.heap.size + 1) 34 5 (ansF 0 0 (.slice none 0 0) (.slice none 0 0) (.slice none 0 0))
  a : Arr wx w.heap.size 37 9 c.f
theorem RcR.next {w : World} {B sv bT bB mB : Nat} {v : Value} {x : GS} {c : CmdT} {wx wy : World} (h : RcR w B sv bT bB mB v x c wx) (m : Mod [] wx wy) : RcR w B sv bT bB mB v x c wy :=
  ⟨h.s.mod0 m, h.m.trans m.nil, h.z.mod m (by simp), h.a.mod m (by simp)⟩
set_option maxRecDepth 100000 in
set_option maxHeartbeats 4000000 in
theorem recover_calls (w : World) (B sv bT bB mB : Nat) (v : Value) (x : GS) (c : CmdT) (hS : Sv w B sv bT bB mB v x) :
    Calls Tryd.prog 110 #[.pointer (some ⟨sv, 0, none⟩), .agg c.arr] w (DoPost w B sv bT bB mB v (x.recover c)) := by
  obtain ⟨w1, hw1⟩ : ∃ w1, w1 = (w.alloc (.cells c.arr 37)).alloc (.cells zeroAns 34) := ⟨_, rfl⟩
  have m1 : Mod [] w w1 := by rw [hw1]; exact ((Mod.refl _ _).alloc _).alloc _
  obtain ⟨A1, Z1⟩ := two_new w c
  rw [← hw1] at A1 Z1
  have hS1 := hS.mod0 m1
  have R1 := Lib.hid (RcR.mk hS1 m1.nil Z1 A1)
  have HW1 := Lib.hid hw1
  have HS := Lib.hid hS
  have h1 := hS.arr.lt
  have h2 := hS.tb.lt
  have h4 := hS.by'.lt
  have CR := Lib.hid (recovering_calls w1 sv bB x.u x.s x.d c hS1.c1 hS1.bk)
  have NE := Lib.hid (show w.heap.size + 1 ∉ SvS sv bT bB mB v ∧ w.heap.size ∉ SvS sv bT bB mB v from ⟨sv_ne hS (by omega), sv_ne hS (by omega)⟩)
  clear hw1 m1 A1 Z1 hS hS1
  unfold zeroAns at HW1
  unfold CmdT.arr at HW1 CR ⊢
  by_cases hr : recB x.u x.d c.c c.o = 0
  rotate_left
  · have E := Lib.hid (show x.recover c = (x, .err (recB x.u x.d c.c c.o)) by unfold GS.recover; rw [if_pos (by rw [recB_of]; exact hr)]; rfl)
    have hr1 : (recB x.u x.d c.c c.o != 0) = true := by simpa using hr
    clear hr
    generalize recB x.u x.d c.c c.o = re at *
    go_enter Tryd.func110, Tryd.ntmps110
    go_wp2_with fail
    rw [← HW1.out] at *
    refine CR.out.mono ?_
    rintro e w2 ⟨rfl, m2⟩
    have R2 := Lib.hid (R1.out.next m2)
    obtain ⟨g0, g1, g2, g3, g4, g5, g6, g7, g8, g9⟩ := ans_facts R2.out.z
    clear m2
    go_wp2
    exact bodyPost_ret (ans_res rfl rfl (put5_arr R2.out.z _ _ _ _ _)) rfl (by rw [E.out]; exact do_end (y := (x, .err re)) (by omega) HS.out R2.out.s (fun k hk => .inl hk) R2.out.m R2.out.z (own_nil _ _ _ _) (own_nil _ _ _ _) (own_nil _ _ _ _) (fun k hk => by cases hk))
  · obtain ⟨hl, hd⟩ := recB_ok hr
    obtain ⟨o0, o8⟩ := deadV_lt hd
    obtain ⟨c0, c8⟩ := livesB_lt hl
    obtain ⟨on, hon⟩ : ∃ on : Nat, c.o = on := ⟨c.o.toNat, by omega⟩
    obtain ⟨cn, hcn⟩ : ∃ cn : Nat, c.c = cn := ⟨c.c.toNat, by omega⟩
    have ho8 : on < 8 := by omega
    have hc8 : cn < 8 := by omega
    have E := Lib.hid (show x.recover c = if 0 ≤ x.bb on ∧ x.bb on ≠ c.c ∧ livesB x.u x.d (x.bb on) = true then (x, .err 150) else ({ x with bb := upd x.bb on c.c }, ⟨0, 0, [], (listL x.t).filter fun h => decide ((h.2.2.1 : Int) = c.o), []⟩) by
      unfold GS.recover
      rw [if_neg (by rw [recB_of]; simpa using hr), hon, Int.toNat_natCast])
    rw [hr] at CR
    have HON := Lib.hid hon
    have HCN := Lib.hid hcn
    clear hr hl hd o0 o8 c0 c8 hon hcn
    go_enter Tryd.func110, Tryd.ntmps110
    go_wp2_with fail
    rw [← HW1.out] at *
    refine CR.out.mono ?_
    rintro e w2 ⟨rfl, m2⟩
    have R2 := Lib.hid (R1.out.next (m2.trans (Mod.refl [] w2).drew))
    obtain ⟨bv, hrun, hbv⟩ := R2.out.s.by'.look ho8
    rw [← HON.out] at hrun
    have q4 := R2.out.s.c4
    have y8 := R2.out.a.cell 8 (by omega)
    have y1 := R2.out.a.cell 1 (by omega)
    simp only [CmdT.f, if_true, if_false, Nat.reduceEqDiff] at y8 y1
    have KS := Lib.hid (And.intro q4 (And.intro y8 hrun))
    clear m2 q4 y8 hrun
    go_wp2
    go_region_held3 (fun w' => w'.cell? ⟨sv, 4, none⟩ = some (.map (some mB)) ∧ w'.cell? ⟨w.heap.size, 8, none⟩ = some (.int .i64 c.o) ∧ (Instr.lookup 45 (.map (some mB)) (.int .i64 c.o) true).run Tryd.prog w' = .ok (.tuple #[.int .i64 bv, .bool (decide (0 ≤ x.bb on))]) w')
      (exact KS.out)
      (fail)
    obtain ⟨wd, hwd⟩ : ∃ wd, wd = w2.drew := ⟨_, rfl⟩
    rw [← hwd] at R2 y1 ⊢
    clear hwd KS
    have LV := Lib.hid (lives_calls wd sv bB x.u x.s x.d bv R2.out.s.c1 R2.out.s.bk)
    have n0 : w.heap.size < wd.heap.size := R2.out.a.lt
    obtain ⟨q, hq⟩ : ∃ q : Bool, q = (decide (0 ≤ x.bb on) && (decide (bv ≠ c.c) && livesB x.u x.d bv)) := ⟨_, rfl⟩
    have HQ := Lib.hid hq
    generalize hib : decide (0 ≤ x.bb on) = ib at *
    generalize hlb : livesB x.u x.d bv = lb at *
    have HIB := Lib.hid hib
    have HLB := Lib.hid hlb
    have HBV := Lib.hid hbv
    clear hq hib hlb hbv
    go_upto_region 5 with (fail)
    go_cut [36] (fun s wx => s = .bool q ∧ wx = wd)
    case first =>
      cases ib with
      | false =>
        have e := Lib.hid (show q = false by rw [HQ.out]; rfl)
        clear LV
        go_wp2
        go_meet
        exact ⟨by rw [e.out], rfl⟩
      | true =>
        by_cases hc : bv = c.c
        · have e := Lib.hid (show q = false by rw [HQ.out]; simp [hc])
          subst hc
          clear LV
          go_wp2
          go_meet
          exact ⟨by rw [e.out], rfl⟩
        · have e := Lib.hid (show q = lb by rw [HQ.out]; simp [hc])
          have hc1 : (bv != c.c) = true := by simpa using hc
          clear hc
          go_wp2_with (go_at_call 114; refine LV.out.mono ?_; rintro e w9 ⟨rfl, rfl⟩)
          go_meet
          exact ⟨by rw [e.out], rfl⟩
    case rest =>
      obtain ⟨rfl, hwc⟩ := hcut
      subst wc
      have hiff : (0 ≤ x.bb on ∧ x.bb on ≠ c.c ∧ livesB x.u x.d (x.bb on) = true) ↔ q = true := by
        rw [HQ.out]
        have hb := HBV.out
        constructor
        · rintro ⟨a1, a2, a3⟩
          have e := hb a1
          rw [← e] at a2 a3
          have e1 : ib = true := by rw [← HIB.out]; exact decide_eq_true a1
          have e2 : lb = true := by rw [← HLB.out]; exact a3
          simp [e1, e2, a2]
        · intro h
          simp only [Bool.and_eq_true, decide_eq_true_eq] at h
          obtain ⟨a1, a2, a3⟩ := h
          have a1 : 0 ≤ x.bb on := by rw [a1] at HIB; exact of_decide_eq_true HIB.out
          have e := hb a1
          refine ⟨a1, ?_, ?_⟩
          · rw [← e]; exact a2
          · rw [← e, HLB.out]; exact a3
      cases q with
      | true =>
        have E2 := Lib.hid (E.out.trans (if_pos (hiff.2 rfl)))
        obtain ⟨g0, g1, g2, g3, g4, g5, g6, g7, g8, g9⟩ := ans_facts R2.out.z
        clear hiff
        go_wp2
        exact bodyPost_ret (ans_res rfl rfl (put5_arr R2.out.z _ _ _ _ _)) rfl (by rw [E2.out]; exact do_end (y := (x, .err 150)) (by omega) HS.out R2.out.s (fun k hk => .inl hk) R2.out.m R2.out.z (own_nil _ _ _ _) (own_nil _ _ _ _) (own_nil _ _ _ _) (fun k hk => by cases hk))
      | false =>
        have E2 := Lib.hid (E.out.trans (if_neg (fun e => by have := hiff.1 e; cases this)))
        have R3 := Lib.hid (R2.out.next (Mod.refl [] wd).drew)
        obtain ⟨w3, hrun, hby, m3⟩ := R3.out.s.by'.set ho8 hc8
        rw [← HON.out, ← HCN.out] at hrun
        rw [← HCN.out] at hby
        have q4 : wd.drew.cell? ⟨sv, 4, none⟩ = some (.map (some mB)) := R3.out.s.c4
        have y8 := R3.out.a.cell 8 (by omega)
        have y1' := R3.out.a.cell 1 (by omega)
        simp only [CmdT.f, if_true, if_false, Nat.reduceEqDiff] at y8 y1'
        have hI : GInv { x with bb := upd x.bb on c.c } := inv_same HS.out.inv rfl rfl (fun i hi => by
          show -1 ≤ upd x.bb on c.c i ∧ upd x.bb on c.c i < 8
          unfold upd
          split
          · rw [HCN.out]; omega
          · exact HS.out.inv.by1 i hi)
        have S4 := Lib.hid (Sv.setBy R3.out.s hby m3 hI)
        have M4 := Lib.hid (R3.out.m.trans (m3.mono (T := SvS sv bT bB mB v) (fun q hq => by have := List.mem_singleton.1 hq; rw [svS_of]; exact .inr (.inr (.inr (.inl this))))))
        have Z4 := Lib.hid (R3.out.z.mod m3 (fun e => by have := List.mem_singleton.1 e; omega))
        have A4 := Lib.hid (R3.out.a.mod m3 (fun e => by have := List.mem_singleton.1 e; omega))
        have HRUN := Lib.hid hrun
        clear hiff hby m3 hI
        go_upto_region 7 with (fail)
        go_cut [0] (fun s wx => s = .pointer (some ⟨sv, 0, none⟩) ∧ wx = w3)
        case first =>
          first
            | (go_region_with (fail))
            | fail
          all_goals
            go_wp2
            go_meet
            exact ⟨rfl, rfl⟩
        case rest =>
          obtain ⟨rfl, hwc⟩ := hcut
          subst wc
          have q0 := S4.out.c0
          have LC := Lib.hid (spList_calls w3 bT x.t S4.out.tb S4.out.wh)
          clear HRUN hrun
          go_wp2_with fail
          refine LC.out.mono ?_
          rintro e w5 ⟨lv, rfl, o5, m5⟩
          have hsz := A4.out.lt
          have hM4 := M4.out.size
          have lfar : ∀ k, k ∈ lv.ownBlock.toList → w3.heap.size ≤ k := own_far o5
          have nl : w.heap.size ∉ lv.ownBlock.toList := fun e => by have := lfar _ e; omega
          have A5 := A4.out.mod m5 (by simp)
          have D := Lib.hid (hdel_calls w5 w3.heap.size lv (listL x.t) 127 #[.pointer (some ⟨w.heap.size, 0, none⟩)] (fun h => decide (¬ (h.2.2.1 : Int) = c.o)) o5 m5.size (enters_of Tryd.func127 (by kernel_rfl) rfl)
            (fun y hy w' m => recover1_calls w' w.heap.size c.o y (m.cell' (A5.cell 8 (by omega)) nl)))
          have S5 := Lib.hid (S4.out.mod0 m5)
          have Z5 := Lib.hid (Z4.out.mod m5 (by simp))
          have M5 := Lib.hid (M4.out.trans m5.nil)
          have LF := Lib.hid lfar
          clear o5 m5 A5 lfar nl
          go_wp2_with fail
          refine D.out.mono ?_
          rintro e w6 ⟨v6, rfl, o6, e6, m6⟩
          have e9 : (fun x : HoldT => !decide (¬ (x.2.2.1 : Int) = c.o)) = fun h => decide ((h.2.2.1 : Int) = c.o) := by
            funext h
            by_cases e : (h.2.2.1 : Int) = c.o <;> simp [e]
          rw [e9] at o6
          obtain ⟨p6, c6, rfl⟩ := own_len o6
          have S6 := Lib.hid (HS.out.far S5.out m6 (fun s hs => by have := LF.out s hs; omega))
          have nz : w.heap.size + 1 ∉ lv.ownBlock.toList := fun e => by have := LF.out _ e; have := Z4.out.lt; omega
          have Z6 := Lib.hid (Z5.out.mod m6 nz)
          have M6 := Lib.hid (M5.out.fresh m6 (fun q hq => .inr (by have := LF.out q hq; omega)))
          have O6 := Lib.hid (own_base o6 (show w.heap.size ≤ w3.heap.size by omega))
          have RV := Lib.hid (fun k hk => sv_ne S4.out (own_lt' o6 k hk).1)
          obtain ⟨g0, g1, g2, g3, g4, g5, g6, g7, g8, g9⟩ := ans_facts Z6.out
          clear o6 e6 m6 e9 nz
          go_wp2
          exact bodyPost_ret (ans_res rfl rfl (put5_arr Z6.out _ _ _ _ _)) rfl (by rw [E2.out]; exact do_end (y := (_, ⟨_, _, _, _, _⟩)) (by omega) HS.out S6.out (fun k hk => .inl hk) M6.out Z6.out (own_nil _ _ _ _) O6.out (own_nil _ _ _ _) RV.out)

set_option maxRecDepth 100000 in
set_option maxHeartbeats 4000000 in
theorem done_calls (w : World) (B sv bT bB mB : Nat) (v : Value) (x : GS) (c : CmdT) (hS : Sv w B sv bT bB mB v x) :
    Calls Tryd.prog 111 #[.pointer (some ⟨sv, 0, none⟩), .agg c.arr] w (DoPost w B sv bT bB mB v (x.done c)) := by
  obtain ⟨w1, hw1⟩ : ∃ w1, w1 = (w.alloc (.cells c.arr 37)).alloc (.cells zeroAns 34) := ⟨_, rfl⟩
  have m1 : Mod [] w w1 := by rw [hw1]; exact ((Mod.refl _ _).alloc _).alloc _
  obtain ⟨A1, Z1⟩ := two_new w c
  rw [← hw1] at A1 Z1
  have hS1 := hS.mod0 m1
  have R1 := Lib.hid (RcR.mk hS1 m1.nil Z1 A1)
  have HW1 := Lib.hid hw1
  have HS := Lib.hid hS
  have h1 := hS.arr.lt
  have h2 := hS.tb.lt
  have h4 := hS.by'.lt
  have CR := Lib.hid (recovering_calls w1 sv bB x.u x.s x.d c hS1.c1 hS1.bk)
  have NE := Lib.hid (show w.heap.size + 1 ∉ SvS sv bT bB mB v ∧ w.heap.size ∉ SvS sv bT bB mB v from ⟨sv_ne hS (by omega), sv_ne hS (by omega)⟩)
  clear hw1 m1 A1 Z1 hS hS1
  unfold zeroAns at HW1
  unfold CmdT.arr at HW1 CR ⊢
  by_cases hr : recB x.u x.d c.c c.o = 0
  rotate_left
  · have E := Lib.hid (show x.done c = (x, .err (recB x.u x.d c.c c.o)) by unfold GS.done; rw [if_pos (by rw [recB_of]; exact hr)]; rfl)
    have hr1 : (recB x.u x.d c.c c.o != 0) = true := by simpa using hr
    clear hr
    generalize recB x.u x.d c.c c.o = re at *
    go_enter Tryd.func111, Tryd.ntmps111
    go_wp2_with fail
    rw [← HW1.out] at *
    refine CR.out.mono ?_
    rintro e w2 ⟨rfl, m2⟩
    have R2 := Lib.hid (R1.out.next m2)
    obtain ⟨g0, g1, g2, g3, g4, g5, g6, g7, g8, g9⟩ := ans_facts R2.out.z
    clear m2
    go_wp2
    exact bodyPost_ret (ans_res rfl rfl (put5_arr R2.out.z _ _ _ _ _)) rfl (by rw [E.out]; exact do_end (y := (x, .err re)) (by omega) HS.out R2.out.s (fun k hk => .inl hk) R2.out.m R2.out.z (own_nil _ _ _ _) (own_nil _ _ _ _) (own_nil _ _ _ _) (fun k hk => by cases hk))
  · obtain ⟨hl, hd⟩ := recB_ok hr
    obtain ⟨o0, o8⟩ := deadV_lt hd
    obtain ⟨c0, c8⟩ := livesB_lt hl
    obtain ⟨on, hon⟩ : ∃ on : Nat, c.o = on := ⟨c.o.toNat, by omega⟩
    obtain ⟨cn, hcn⟩ : ∃ cn : Nat, c.c = cn := ⟨c.c.toNat, by omega⟩
    have ho8 : on < 8 := by omega
    have hc8 : cn < 8 := by omega
    have E := Lib.hid (show x.done c = if x.bb on ≠ c.c then (x, .err 150) else GS.serve { x with t := setT x.t c.o 0 256 (fun _ => 0), u := forgU x.u x.d c.o, d := forgD x.d c.o, bb := upd x.bb on (-1) } [] by
      unfold GS.done
      rw [if_neg (by rw [recB_of]; simpa using hr), hon, Int.toNat_natCast])
    rw [hr] at CR
    have HON := Lib.hid hon
    have HCN := Lib.hid hcn
    clear hr hl hd o0 o8 c0 c8 hon hcn
    go_enter Tryd.func111, Tryd.ntmps111
    go_wp2_with fail
    rw [← HW1.out] at *
    refine CR.out.mono ?_
    rintro e w2 ⟨rfl, m2⟩
    have R2 := Lib.hid (R1.out.next (m2.trans (Mod.refl [] w2).drew))
    obtain ⟨bv, hrun, hbv⟩ := R2.out.s.by'.look ho8
    rw [← HON.out] at hrun
    have q4 := R2.out.s.c4
    have y8 := R2.out.a.cell 8 (by omega)
    have y1 := R2.out.a.cell 1 (by omega)
    simp only [CmdT.f, if_true, if_false, Nat.reduceEqDiff] at y8 y1
    have KS := Lib.hid (And.intro q4 (And.intro y8 hrun))
    clear m2 q4 y8 hrun
    go_wp2
    go_region_held3 (fun w' => w'.cell? ⟨sv, 4, none⟩ = some (.map (some mB)) ∧ w'.cell? ⟨w.heap.size, 8, none⟩ = some (.int .i64 c.o) ∧ (Instr.lookup 45 (.map (some mB)) (.int .i64 c.o) true).run Tryd.prog w' = .ok (.tuple #[.int .i64 bv, .bool (decide (0 ≤ x.bb on))]) w')
      (exact KS.out)
      (fail)
    obtain ⟨wd, hwd⟩ : ∃ wd, wd = w2.drew := ⟨_, rfl⟩
    rw [← hwd] at R2 y1 ⊢
    clear hwd KS
    have n0 : w.heap.size < wd.heap.size := R2.out.a.lt
    obtain ⟨q, hq⟩ : ∃ q : Bool, q = (!decide (0 ≤ x.bb on) || decide (bv ≠ c.c)) := ⟨_, rfl⟩
    have hiff : x.bb on ≠ c.c ↔ q = true := by
      rw [hq]
      simp only [Bool.or_eq_true, Bool.not_eq_true', decide_eq_false_iff_not, decide_eq_true_eq]
      by_cases h0 : 0 ≤ x.bb on
      · rw [hbv h0]
        simp [h0]
      · simp [h0]
        rw [HCN.out]
        omega
    have HQ := Lib.hid hq
    have HIFF := Lib.hid hiff
    generalize hib : decide (0 ≤ x.bb on) = ib at *
    clear hq hib hbv hiff
    go_upto_region 5 with (fail)
    go_cut [32] (fun s wx => s = .bool q ∧ wx = wd)
    case first =>
      cases ib with
      | false =>
        have e := Lib.hid (show q = true by rw [HQ.out]; rfl)
        go_wp2
        go_meet
        exact ⟨by rw [e.out], rfl⟩
      | true =>
        by_cases hc : bv = c.c
        · have e := Lib.hid (show q = false by rw [HQ.out]; simp [hc])
          subst hc
          go_wp2
          go_meet
          exact ⟨by rw [e.out], rfl⟩
        · have e := Lib.hid (show q = true by rw [HQ.out]; simp [hc])
          have hc1 : (bv != c.c) = true := by simpa using hc
          clear hc
          go_wp2
          go_meet
          exact ⟨by rw [e.out], rfl⟩
    case rest =>
      obtain ⟨rfl, hwc⟩ := hcut
      subst wc
      cases q with
      | true =>
        have E2 := Lib.hid (E.out.trans (if_pos (HIFF.out.2 rfl)))
        obtain ⟨g0, g1, g2, g3, g4, g5, g6, g7, g8, g9⟩ := ans_facts R2.out.z
        go_wp2
        exact bodyPost_ret (ans_res rfl rfl (put5_arr R2.out.z _ _ _ _ _)) rfl (by rw [E2.out]; exact do_end (y := (x, .err 150)) (by omega) HS.out R2.out.s (fun k hk => .inl hk) R2.out.m R2.out.z (own_nil _ _ _ _) (own_nil _ _ _ _) (own_nil _ _ _ _) (fun k hk => by cases hk))
      | false =>
        have E2 := Lib.hid (E.out.trans (if_neg (fun e => by have := HIFF.out.1 e; cases this)))
        have h3 := HS.out.bk.arr.lt
        have R3 := Lib.hid (R2.out.next (Mod.refl [] wd).drew)
        have C7 := Lib.hid (spDrop_calls wd.drew bT x.t c.o R3.out.s.tb R3.out.s.wh)
        have ks : ∀ w', Mod [bT] wd.drew w' → w'.cell? ⟨sv, 0, none⟩ = some (.pointer (some ⟨bT, 0, none⟩)) ∧ w'.cell? ⟨w.heap.size, 8, none⟩ = some (.int .i64 c.o) := fun w' m =>
          ⟨m.cell' R3.out.s.c0 (by simpa using HS.out.apart.1), m.cell' (R3.out.a.cell 8 (by omega)) (fun e => by have e : w.heap.size = bT := List.mem_singleton.1 e; omega)⟩
        have KS := Lib.hid ks
        clear ks
        go_wp2
        go_region_held3 (fun w' => w'.cell? ⟨sv, 0, none⟩ = some (.pointer (some ⟨bT, 0, none⟩)) ∧ w'.cell? ⟨w.heap.size, 8, none⟩ = some (.int .i64 c.o))
          (first | exact KS.out _ (Mod.refl _ _) | exact KS.out _ (by assumption))
          (first
            | (go_at_call 128; (with_reducible refine C7.out.mono ?_); rintro e w4 ⟨v4, rfl, o4, t4, m4⟩))
        have S4 := Sv.setT R3.out.s t4 m4
        have M4 := R3.out.m.trans (m4.mono (T := SvS sv bT bB mB v) (fun q hq => by have := List.mem_singleton.1 hq; rw [svS_of]; exact .inr (.inl this)))
        have Z4 := R3.out.z.mod m4 (fun e => by have := List.mem_singleton.1 e; omega)
        have A4 := R3.out.a.mod m4 (fun e => by have := List.mem_singleton.1 e; omega)
        have R4 := Lib.hid ((RcR.mk S4 M4 Z4 A4).next (Mod.refl [] w4).drew)
        clear o4 t4 m4 S4 M4 Z4 A4
        have C8 := Lib.hid (bkForgive_calls w4.drew bB x.u x.s x.d c.o R4.out.s.bk)
        have ks : ∀ w', Mod [bB] w4.drew w' → w'.cell? ⟨sv, 1, none⟩ = some (.pointer (some ⟨bB, 0, none⟩)) ∧ w'.cell? ⟨w.heap.size, 8, none⟩ = some (.int .i64 c.o) := fun w' m =>
          ⟨m.cell' R4.out.s.c1 (by simpa using HS.out.apart.2.1), m.cell' (R4.out.a.cell 8 (by omega)) (fun e => by have e : w.heap.size = bB := List.mem_singleton.1 e; omega)⟩
        have KS8 := Lib.hid ks
        clear ks
        go_wp2
        go_region_held3 (fun w' => w'.cell? ⟨sv, 1, none⟩ = some (.pointer (some ⟨bB, 0, none⟩)) ∧ w'.cell? ⟨w.heap.size, 8, none⟩ = some (.int .i64 c.o))
          (first | exact KS8.out _ (Mod.refl _ _) | exact KS8.out _ (by assumption))
          (first
            | (go_at_call 129; (with_reducible refine C8.out.mono ?_); rintro e w5 ⟨rfl, b5, m5⟩))
        have S5 := Sv.setB R4.out.s b5 m5
        have M5 := R4.out.m.trans (m5.mono (T := SvS sv bT bB mB v) (fun q hq => by have := List.mem_singleton.1 hq; rw [svS_of]; exact .inr (.inr (.inl this))))
        have Z5 := R4.out.z.mod m5 (fun e => by have := List.mem_singleton.1 e; omega)
        have A5 := R4.out.a.mod m5 (fun e => by have := List.mem_singleton.1 e; omega)
        have R5 := Lib.hid ((RcR.mk S5 M5 Z5 A5).next (Mod.refl [] w5).drew)
        clear b5 m5 S5 M5 Z5 A5
        obtain ⟨w6, hrun6, hby, m6⟩ := R5.out.s.by'.del ho8 0
        rw [← HON.out] at hrun6
        have hI : GInv { x with t := setT x.t c.o 0 256 (fun _ => 0), u := forgU x.u x.d c.o, d := forgD x.d c.o, bb := upd x.bb on (-1) } := inv_same HS.out.inv rfl rfl (fun i hi => by
          show -1 ≤ upd x.bb on (-1) i ∧ upd x.bb on (-1) i < 8
          unfold upd
          split
          · omega
          · exact HS.out.inv.by1 i hi)
        have S6 := Lib.hid (Sv.setBy R5.out.s hby m6 hI)
        have M6 := Lib.hid (R5.out.m.trans (m6.mono (T := SvS sv bT bB mB v) (fun q hq => by have := List.mem_singleton.1 hq; rw [svS_of]; exact .inr (.inr (.inr (.inl this))))))
        have Z6 := Lib.hid (R5.out.z.mod m6 (fun e => by have := List.mem_singleton.1 e; omega))
        have q4 : w5.drew.cell? ⟨sv, 4, none⟩ = some (.map (some mB)) := R5.out.s.c4
        have y8 := R5.out.a.cell 8 (by omega)
        simp only [CmdT.f, if_true, if_false, Nat.reduceEqDiff] at y8
        clear hby m6 hI
        go_wp2
        go_cut [0] (fun s wx => s = .pointer (some ⟨sv, 0, none⟩) ∧ wx = w6)
        case first =>
          first
            | (go_region_with (fail))
            | fail
          all_goals
            go_wp2
            go_meet
            exact ⟨rfl, rfl⟩
        case rest =>
          obtain ⟨rfl, hwc⟩ := hcut
          subst wc
          have C4 := Lib.hid (serve_calls w6 B sv bT bB mB _ _ (.slice none 0 0) S6.out ⟨_, _, _, rfl⟩)
          clear hrun6
          go_wp2_with fail
          refine C4.out.mono ?_
          rintro e w7 ⟨gv, v', rfl, o5, s5, n5, m5⟩
          obtain ⟨p5, c5, rfl⟩ := own_len o5
          have Z7 := Lib.hid (Z6.out.mod m5 (by simp; omega))
          have FIN := Lib.hid (do_serve (zs := []) (rb := w.heap.size + 1) (by omega) HS.out S6.out M6.out o5 s5 n5 m5 Z6.out (own_nil _ _ _ _))
          obtain ⟨r0, r1, r2, r3, r4, r5, r6, r7, r8, r9⟩ := ans_facts Z7.out
          clear o5 s5 n5 m5
          go_wp2
          exact bodyPost_ret (ans_res rfl rfl (put5_arr Z7.out _ _ _ _ _)) rfl (by rw [E2.out]; exact FIN.out)
end Go.Proofs.YtijjbkkcienfgaaDoor
