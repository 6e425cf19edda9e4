/- Asking. No condition beyond what stands in each. -/
import Derived.Test.YtijjbkkcienfgaaDoorGr18
import Derived.Deep.RegionLaw
namespace Go.Proofs.YtijjbkkcienfgaaDoor
open Go.RowKit
set_option linter.unusedVariables false
set_option linter.unusedSimpArgs false
attribute [local go_sem ↓] Go.wp_at_zero Go.wp_at_succ

def askH (c : CmdT) (i : Nat) : Value := if i = 0 then .int .i64 c.a else if i = 1 then .int .i64 c.b else if i = 2 then .int .i64 c.c else .int .i64 c.m
/-- Behind the first steps of asking: what stands. -/
structure AskR (w : World) (B sv bT bB mB : Nat) (v : Value) (x : GS) (c : CmdT) (wx : World) : Prop where
  s : Sv wx B sv bT bB mB v x
  m : Mod [] w wx
  z : Arr wx (w.heap.size + 1) 34 5 (ansF 0 0 (.slice none 0 0) (.slice none 0 0) (.slice none 0 0))
  a : Arr wx w.heap.size 37 9 c.f
  h : Arr wx (w.heap.size + 2) 39 4 (askH c)
theorem AskR.next {w : World} {B sv bT bB mB : Nat} {v : Value} {x : GS} {c : CmdT} {wx wy : World} (h : AskR w B sv bT bB mB v x c wx) (m : Mod [] wx wy) : AskR w B sv bT bB mB v x c wy :=
  ⟨h.s.mod0 m, h.m.trans m, h.z.mod m (by simp), h.a.mod m (by simp), h.h.mod m (by simp)⟩
theorem askR_start {w : World} {B sv bT bB mB : Nat} {v : Value} {x : GS} (c : CmdT) (hS : Sv w B sv bT bB mB v x) :
    AskR w B sv bT bB mB v x c (((w.alloc (.cells c.arr 37)).alloc (.cells zeroAns 34)).alloc (.cells #[.int .i64 c.a, .int .i64 c.b, .int .i64 c.c, .int .i64 c.m] 39)) := by
  obtain ⟨A1, Z1⟩ := two_new w c
  have m : Mod [] w (((w.alloc (.cells c.arr 37)).alloc (.cells zeroAns 34)).alloc (.cells #[.int .i64 c.a, .int .i64 c.b, .int .i64 c.c, .int .i64 c.m] 39)) := (((Mod.refl _ _).alloc _).alloc _).alloc _
  have H := Arr.new' ((w.alloc (.cells c.arr 37)).alloc (.cells zeroAns 34)) #[.int .i64 c.a, .int .i64 c.b, .int .i64 c.c, .int .i64 c.m] 39 4 (askH c) rfl (fun i hi => by
    match i, hi with
    | 0, _ | 1, _ | 2, _ | 3, _ => rfl)
  have e : ((w.alloc (.cells c.arr 37)).alloc (.cells zeroAns 34)).heap.size = w.heap.size + 2 := by simp
  rw [e] at H
  exact ⟨hS.mod0 m, m, Z1.alloc _, A1.alloc _, H⟩
theorem AskR.err {w : World} {B sv bT bB mB : Nat} {v : Value} {x : GS} {c : CmdT} {wx : World} {y : GS × GA} {e : Int} (h : AskR w B sv bT bB mB v x c wx) (hS : Sv w B sv bT bB mB v x) (hy : y = (x, .err e)) :
    DoPost w B sv bT bB mB v y (.returned (.agg #[.int .i64 e, .int .i64 0, .slice none 0 0, .slice none 0 0, .slice none 0 0])) (put5 wx (w.heap.size + 1) (.int .i64 e) (.int .i64 0) (.slice none 0 0) (.slice none 0 0) (.slice none 0 0)) :=
  do_err (by omega) hS hy h.m h.z
theorem hnews_c (w : World) (c : CmdT) : ∀ (j : Nat) u, [Value.int .i64 c.a, .int .i64 c.b, .int .i64 c.c, .int .i64 c.m][j]? = some u → (w.alloc (.cells #[.int .i64 c.a, .int .i64 c.b, .int .i64 c.c, .int .i64 c.m] 39)).cell? ((⟨w.heap.size, 0, none⟩ : Addr).add j) = some u := by
  intro j u hj
  have e1 : (⟨w.heap.size, 0, none⟩ : Addr).add j = ⟨w.heap.size, j, none⟩ := by
    unfold Addr.add
    by_cases z1 : j = 0 <;> simp [z1]
  rw [e1]
  match j with
  | 0 | 1 | 2 | 3 => simp at hj; subst hj; simp
  | j + 4 => simp at hj
/-- Behind the queue's growth. -/
structure AskQ (w : World) (B sv bT bB mB : Nat) (v : Value) (y : GS) (c : CmdT) (wx : World) (v5 : Value) : Prop where
  s : Sv wx B sv bT bB mB v5 y
  m : Mod (SvS sv bT bB mB v) w wx
  z : Arr wx (w.heap.size + 1) 34 5 (ansF 0 0 (.slice none 0 0) (.slice none 0 0) (.slice none 0 0))
  h : Arr wx (w.heap.size + 2) 39 4 (askH c)
  hv : ∀ k, v5.ownBlock = some k → v.ownBlock = some k ∨ w.heap.size ≤ k
theorem AskQ.next {w : World} {B sv bT bB mB : Nat} {v v5 : Value} {y : GS} {c : CmdT} {wx wy : World} (h : AskQ w B sv bT bB mB v y c wx v5) (m : Mod [] wx wy) : AskQ w B sv bT bB mB v y c wy v5 :=
  ⟨h.s.mod0 m, h.m.trans m.nil, h.z.mod m (by simp), h.h.mod m (by simp), h.hv⟩
theorem askQ_of {w wd w5 : World} {B sv bT bB mB : Nat} {v : Value} {x y : GS} {c : CmdT} {o : Obj} {g1 n1 c1 : Nat} (hS : Sv w B sv bT bB mB v x) (R : AskR w B sv bT bB mB v x c wd) (s5 : Sv (w5.setCell ⟨sv, 2, none⟩ (.slice (some ⟨g1, 0, none⟩) n1 c1)) B sv bT bB mB (.slice (some ⟨g1, 0, none⟩) n1 c1) y)
    (m5 : Mod v.ownBlock.toList (wd.alloc o) w5) (hg : v.ownBlock = some g1 ∨ g1 = wd.heap.size + 1) :
    AskQ w B sv bT bB mB v y c (w5.setCell ⟨sv, 2, none⟩ (.slice (some ⟨g1, 0, none⟩) n1 c1)) (.slice (some ⟨g1, 0, none⟩) n1 c1) := by
  have hsv := hS.arr.lt
  have ns : ∀ k, w.heap.size ≤ k → k ∉ v.ownBlock.toList := fun k hk e => by have := (own_lt' hS.wt k (by simpa using e)).2; omega
  have nv : ∀ k, w.heap.size ≤ k → k ∉ [sv] := fun k hk e => by have := List.mem_singleton.1 e; omega
  have mz : Mod [sv] w5 (w5.setCell ⟨sv, 2, none⟩ (.slice (some ⟨g1, 0, none⟩) n1 c1)) := (Mod.refl _ _).setCell (.inl (by simp)) _
  have ma : Mod [] w (wd.alloc o) := R.m.alloc o
  refine ⟨s5, ?_, (((R.z.alloc o).mod m5 (ns _ (by omega))).mod mz (nv _ (by omega))), (((R.h.alloc o).mod m5 (ns _ (by omega))).mod mz (nv _ (by omega))), fun q hq => ?_⟩
  · exact (ma.nil.trans (m5.mono (T := SvS sv bT bB mB v) (fun q hq => by rw [svS_of]; exact .inr (.inr (.inr (.inr hq)))))).setCell (p := ⟨sv, 2, none⟩) (.inl (by rw [svS_of]; exact .inl rfl)) _
  · have e : g1 = q := by simpa [Value.ownBlock] using hq
    subst e
    rcases hg with e | e
    · exact .inl e
    · have := R.m.size
      exact .inr (by omega)
/-- What giving comes to, its three results by name. -/
def GiveR (w : World) (B sv bT bB mB : Nat) (v : Value) (x : GS) (h : HoldT) (L : List HoldT) (n e : Int) (b : Bool) (w' : World) : Prop :=
  (b = true ∧ freeT x.t h L = false ∧ Mod [] w w') ∨
  (b = false ∧ freeT x.t h L = true ∧ ∃ y : GS, Sv w' B sv bT bB mB v y ∧ Mod [sv, bT] w w' ∧ (if putEH x.t h = 0 then ({ x with t := putTH x.t h, last := x.last + 1 }, (⟨0, x.last + 1, [], [], []⟩ : GA)) else (x, .err (putEH x.t h))) = (y, ⟨e, n.toNat, [], [], []⟩) ∧ 0 ≤ n)
theorem giveR_of {w : World} {B sv bT bB mB : Nat} {v : Value} {x : GS} {h : HoldT} {L : List HoldT} {r : Ending} {w' : World} (hp : GivePost w B sv bT bB mB v x h L r w') : ∃ (n e : Int) (b : Bool), r = .returned (.tuple #[.int .i64 n, .int .i64 e, .bool b]) ∧ GiveR w B sv bT bB mB v x h L n e b w' := by
  rcases hp with ⟨f1, rfl, m⟩ | ⟨f1, f2, rfl, s, m⟩ | ⟨f1, f2, rfl, s, m⟩
  · exact ⟨0, 0, true, rfl, .inl ⟨rfl, f1, m⟩⟩
  · exact ⟨0, _, false, rfl, .inr ⟨rfl, f1, x, s, m.mono (by simp), by rw [if_neg f2]; rfl, Int.le_refl _⟩⟩
  · exact ⟨_, 0, false, rfl, .inr ⟨rfl, f1, _, s, m, by rw [if_pos f2]; rfl, by omega⟩⟩
set_option maxRecDepth 100000 in
set_option maxHeartbeats 8000000 in
theorem ask_calls (w : World) (B sv bT bB mB : Nat) (v : Value) (x : GS) (c : CmdT) (hS : Sv w B sv bT bB mB v x) :
    Calls Tryd.prog 105 #[.pointer (some ⟨sv, 0, none⟩), .agg c.arr] w (DoPost w B sv bT bB mB v (x.ask c)) := by
  obtain ⟨w1, hw1⟩ : ∃ w1, w1 = ((w.alloc (.cells c.arr 37)).alloc (.cells zeroAns 34)).alloc (.cells #[.int .i64 c.a, .int .i64 c.b, .int .i64 c.c, .int .i64 c.m] 39) := ⟨_, rfl⟩
  have R1 := askR_start c hS
  rw [← hw1] at R1
  have HR1 := Lib.hid R1
  have HW1 := Lib.hid hw1
  have HS := Lib.hid hS
  have h1 := hS.arr.lt
  have h2 := hS.tb.lt
  have hsz := R1.h.lt
  have y1 := R1.a.cell 1 (by omega)
  have y5 := R1.a.cell 5 (by omega)
  have y6 := R1.a.cell 6 (by omega)
  have y7 := R1.a.cell 7 (by omega)
  simp only [CmdT.f, if_true, if_false, Nat.reduceEqDiff] at y1 y5 y6 y7
  obtain ⟨g0, g1, g2, g3, g4, g5, g6, g7, g8, g9⟩ := ans_facts R1.z
  have CC := Lib.hid (gclient_calls w1 c.c)
  obtain ⟨q1, hq1⟩ : ∃ q : Bool, q = (!inC8 c.c || !okM c.m) := ⟨_, rfl⟩
  have HQ1 := Lib.hid hq1
  generalize hib : inC8 c.c = ib at *
  have HIB := Lib.hid hib
  clear hw1 R1 hS hq1 hib
  unfold zeroAns at HW1
  unfold CmdT.arr at HW1 ⊢
  go_enter Tryd.func105, Tryd.ntmps105
  go_upto_region 2 with (fail)
  rw [← HW1.out] at *
  go_cut [16] (fun s wx => s = .bool q1 ∧ wx = w1)
  case first =>
    cases ib with
    | false =>
      have e := Lib.hid (show q1 = true by rw [HQ1.out]; rfl)
      go_wp2_with (go_at_call 113; refine CC.out.mono ?_; rintro e w9 ⟨rfl, rfl⟩)
      go_meet
      exact ⟨by rw [e.out], rfl⟩
    | true =>
      by_cases m1 : c.m = 1
      · have e := Lib.hid (show q1 = false by rw [HQ1.out]; simp [okM, m1])
        have m1' : (c.m != 1) = false := by simpa using m1
        clear m1
        go_wp2_with (go_at_call 113; refine CC.out.mono ?_; rintro e w9 ⟨rfl, rfl⟩)
        go_meet
        exact ⟨by rw [e.out], rfl⟩
      · have m1' : (c.m != 1) = true := by simpa using m1
        by_cases m2 : c.m = 2
        · have e := Lib.hid (show q1 = false by rw [HQ1.out]; simp [okM, m2])
          have m2' : (c.m != 2) = false := by simpa using m2
          clear m1 m2
          go_wp2_with (go_at_call 113; refine CC.out.mono ?_; rintro e w9 ⟨rfl, rfl⟩)
          go_meet
          exact ⟨by rw [e.out], rfl⟩
        · have e := Lib.hid (show q1 = true by rw [HQ1.out]; simp [okM, m1, m2])
          have m2' : (c.m != 2) = true := by simpa using m2
          clear m1 m2
          go_wp2_with (go_at_call 113; refine CC.out.mono ?_; rintro e w9 ⟨rfl, rfl⟩)
          go_meet
          exact ⟨by rw [e.out], rfl⟩
  case rest =>
    obtain ⟨rfl, hwc⟩ := hcut
    subst wc
    cases q1 with
    | true =>
      have E := Lib.hid (show x.ask c = (x, .err 1) by
        unfold GS.ask
        rw [if_pos]
        have := HQ1.out.symm
        rw [← HIB.out] at this
        simpa using this)
      go_wp2
      (try simp only [Exit.inBlock, Exit.then])
      exact bodyPost_ret (ans_res rfl rfl (put5_arr HR1.out.z _ _ _ _ _)) rfl (HR1.out.err HS.out E.out)
    | false =>
      have k1 : inC8 c.c = true ∧ okM c.m = true := by
        have := HQ1.out.symm
        rw [← HIB.out] at this
        simpa using this
      have K1 := Lib.hid k1
      have E1 := Lib.hid (show ∀ z, (if inC8 c.c = false ∨ okM c.m = false then (x, GA.err 1) else z) = z from fun z => if_neg (by simp [k1.1, k1.2]))
      obtain ⟨q2, hq2⟩ : ∃ q : Bool, q = !blk c.a c.b := ⟨_, rfl⟩
      have HQ2 := Lib.hid hq2
      clear hq2 k1
      go_upto_region 4 with (fail)
      go_cut [32] (fun s wx => s = .bool q2 ∧ wx = w1)
      case first =>
        by_cases a0 : c.a < 0
        · have e := Lib.hid (show q2 = true by rw [HQ2.out]; simp [blk]; omega)
          go_wp2
          go_meet
          exact ⟨by rw [e.out], rfl⟩
        · by_cases a1 : c.b ≤ c.a
          · have e := Lib.hid (show q2 = true by rw [HQ2.out]; simp [blk]; omega)
            go_wp2
            go_meet
            exact ⟨by rw [e.out], rfl⟩
          · by_cases a2 : 256 < c.b
            · have e := Lib.hid (show q2 = true by rw [HQ2.out]; simp [blk]; omega)
              go_wp2
              go_meet
              exact ⟨by rw [e.out], rfl⟩
            · have e := Lib.hid (show q2 = false by rw [HQ2.out]; simp [blk]; omega)
              go_wp2
              go_meet
              exact ⟨by rw [e.out], rfl⟩
      case rest =>
        obtain ⟨rfl, hwc⟩ := hcut
        subst wc
        cases q2 with
        | true =>
          have E := Lib.hid (show x.ask c = (x, .err 71) by
            unfold GS.ask
            rw [E1.out, if_pos (by simpa using HQ2.out.symm)])
          go_wp2
          (try simp only [Exit.inBlock, Exit.then])
          exact bodyPost_ret (ans_res rfl rfl (put5_arr HR1.out.z _ _ _ _ _)) rfl (HR1.out.err HS.out E.out)
        | false =>
          have k2 : blk c.a c.b = true := by simpa using HQ2.out.symm
          have K2 := Lib.hid k2
          have E2 := Lib.hid (show ∀ z, (if blk c.a c.b = false then (x, GA.err 71) else z) = z from fun z => if_neg (by simp [k2]))
          have LV := Lib.hid (lives_calls w1 sv bB x.u x.s x.d c.c HR1.out.s.c1 HR1.out.s.bk)
          generalize hlb : livesB x.u x.d c.c = lb at *
          have HLB := Lib.hid hlb
          clear k2 hlb
          go_wp2_with fail
          refine LV.out.mono ?_
          rintro e w9 ⟨rfl, rfl⟩
          cases lb with
          | false =>
            have E := Lib.hid (show x.ask c = (x, .err 200) by
              unfold GS.ask
              rw [E1.out, E2.out, if_pos HLB.out])
            go_wp2
            (try simp only [Exit.inBlock, Exit.then])
            exact bodyPost_ret (ans_res rfl rfl (put5_arr HR1.out.z _ _ _ _ _)) rfl (HR1.out.err HS.out E.out)
          | true =>
            have E3 := Lib.hid (show ∀ z, (if livesB x.u x.d c.c = false then (x, GA.err 200) else z) = z from fun z => if_neg (by rw [HLB.out]; simp))
            have AN := Lib.hid (hany_calls w1 v x.wl 116 #[.pointer (some ⟨w.heap.size, 0, none⟩)] (fun o => decide ((o.2.2.1 : Int) = c.c)) (hs_own HR1.out.s.wt) (enters_of Tryd.func116 (by kernel_rfl) rfl) (fun y hy w' m => ask1_calls w' w.heap.size c.c y ((HR1.out.a.mod m (by simp)).cell 1 (by omega))))
            have c2 := HR1.out.s.c2
            generalize han : (x.wl.any fun o => decide ((o.2.2.1 : Int) = c.c)) = an at *
            have HAN := Lib.hid han
            clear han LV
            go_wp2_with fail
            refine AN.out.mono ?_
            rintro e w2 ⟨rfl, m2⟩
            have R2 := Lib.hid (HR1.out.next m2)
            obtain ⟨k0, k1, k2, k3, k4, k5, k6, k7, k8, k9⟩ := ans_facts R2.out.z
            have c3 := R2.out.s.c3
            clear g0 g1 g2 g3 g4 g5 g6 g7 g8 g9 m2 c2 y1 y5 y6 y7
            cases an with
            | true =>
              have E := Lib.hid (show x.ask c = (x, .err 4) by
                unfold GS.ask
                rw [E1.out, E2.out, E3.out, if_pos HAN.out])
              go_wp2
              (try simp only [Exit.inBlock, Exit.then])
              exact bodyPost_ret (ans_res rfl rfl (put5_arr R2.out.z _ _ _ _ _)) rfl (R2.out.err HS.out E.out)
            | false =>
              have E4 := Lib.hid (show ∀ z, (if (x.wl.any fun o => decide ((o.2.2.1 : Int) = c.c)) = true then (x, GA.err 4) else z) = z from fun z => if_neg (by rw [HAN.out]; simp))
              obtain ⟨ls, hls⟩ : ∃ ls, ls = x.last := ⟨_, rfl⟩
              have HLS := Lib.hid hls
              rw [← hls] at c3
              clear hls
              by_cases hfull : 1099511627776 ≤ ls
              · have hf1 : (1099511627776 : Int) ≤ (ls : Int) := by omega
                have E := Lib.hid (show x.ask c = (x, .err 6) by
                  unfold GS.ask
                  rw [E1.out, E2.out, E3.out, E4.out, if_pos (by rw [← HLS.out]; unfold maxS; exact hfull)])
                go_wp2
                (try simp only [Exit.inBlock, Exit.then])
                exact bodyPost_ret (ans_res rfl rfl (put5_arr R2.out.z _ _ _ _ _)) rfl (R2.out.err HS.out E.out)
              · have hf1 : ¬ (1099511627776 : Int) ≤ (ls : Int) := by omega
                have E5 := Lib.hid (show ∀ z, (if maxS ≤ x.last then (x, GA.err 6) else z) = z from fun z => if_neg (by rw [← HLS.out]; unfold maxS; exact hfull))
                have hdec : decide ((1099511627776 : Int) ≤ (ls : Int)) = false := decide_eq_false hf1
                have HF := Lib.hid hfull
                clear hfull hf1
                go_wp2
                have kb : 0 ≤ c.a ∧ c.a < c.b ∧ c.b ≤ 256 := by
                  have := K2.out
                  simp only [blk, Bool.and_eq_true, decide_eq_true_eq] at this
                  omega
                have kc : 0 ≤ c.c ∧ c.c < 8 := inC8_iff.1 K1.out.1
                have km : c.m = 1 ∨ c.m = 2 := by
                  have := K1.out.2
                  simpa [okM] using this
                have R3 := Lib.hid (R2.out.next (Mod.refl [] w2).drew)
                have GV := (give_calls w2.drew B sv bT bB mB v x c.hold (by show c.m.toNat ≤ 2; omega) v x.wl (fun y hy => by have := (HS.out.inv.wl y hy).2.2.2; omega) (hs_own R3.out.s.wt) R3.out.s (by rw [← HLS.out]; unfold maxS; have := HF.out; omega)).mono (R' := fun r w' => ∃ (n e : Int) (b : Bool), r = .returned (.tuple #[.int .i64 n, .int .i64 e, .bool b]) ∧ GiveR w2.drew B sv bT bB mB v x c.hold x.wl n e b w') (fun _ _ h => giveR_of h)
                rw [show ((c.hold.1 : Nat) : Int) = c.a by show ((c.a.toNat : Nat) : Int) = c.a; omega, show ((c.hold.2.1 : Nat) : Int) = c.b by show ((c.b.toNat : Nat) : Int) = c.b; omega, show ((c.hold.2.2.1 : Nat) : Int) = c.c by show ((c.c.toNat : Nat) : Int) = c.c; omega, show ((c.hold.2.2.2 : Nat) : Int) = c.m by show ((c.m.toNat : Nat) : Int) = c.m; omega] at GV
                have HGV := Lib.hid GV
                have c2 : w2.drew.cell? ⟨sv, 2, none⟩ = some v := R3.out.s.c2
                have z0 := R3.out.h.cell 0 (by omega)
                have z1 := R3.out.h.cell 1 (by omega)
                have z2 := R3.out.h.cell 2 (by omega)
                have z3 := R3.out.h.cell 3 (by omega)
                simp only [askH, if_true, if_false, Nat.reduceEqDiff] at z0 z1 z2 z3
                have KS := Lib.hid (And.intro c2 (And.intro z0 (And.intro z1 (And.intro z2 z3))))
                have KSG := Lib.hid (fun n e b w' (hg : GiveR w2.drew B sv bT bB mB v x c.hold x.wl n e b w') => show w'.cell? ⟨sv, 2, none⟩ = some v ∧ w'.cell? ⟨w.heap.size + 2, 0, none⟩ = some (.int .i64 c.a) ∧ w'.cell? ⟨w.heap.size + 2, 1, none⟩ = some (.int .i64 c.b) ∧ w'.cell? ⟨w.heap.size + 2, 2, none⟩ = some (.int .i64 c.c) ∧ w'.cell? ⟨w.heap.size + 2, 3, none⟩ = some (.int .i64 c.m) by
                  have nz : w.heap.size + 2 ∉ [sv, bT] := fun e => by simp at e; omega
                  rcases hg with ⟨_, _, m⟩ | ⟨_, _, y, s, m, _⟩
                  · exact ⟨m.cell' KS.out.1 (by simp), m.cell' KS.out.2.1 (by simp), m.cell' KS.out.2.2.1 (by simp), m.cell' KS.out.2.2.2.1 (by simp), m.cell' KS.out.2.2.2.2 (by simp)⟩
                  · exact ⟨s.c2, m.cell' KS.out.2.1 nz, m.cell' KS.out.2.2.1 nz, m.cell' KS.out.2.2.2.1 nz, m.cell' KS.out.2.2.2.2 nz⟩)
                clear GV kb kc km
                go_cut [6, 7, 8] (fun s6 s7 s8 wx => ∃ (n e : Int) (b : Bool), s6 = .int .i64 n ∧ s7 = .int .i64 e ∧ s8 = .bool b ∧ GiveR w2.drew B sv bT bB mB v x c.hold x.wl n e b wx)
                case first =>
                  go_region_held3 (fun w' => w'.cell? ⟨sv, 2, none⟩ = some v ∧ w'.cell? ⟨w.heap.size + 2, 0, none⟩ = some (.int .i64 c.a) ∧ w'.cell? ⟨w.heap.size + 2, 1, none⟩ = some (.int .i64 c.b) ∧ w'.cell? ⟨w.heap.size + 2, 2, none⟩ = some (.int .i64 c.c) ∧ w'.cell? ⟨w.heap.size + 2, 3, none⟩ = some (.int .i64 c.m))
                    (first | exact KS.out | exact KSG.out _ _ _ _ hg)
                    (first
                      | (go_at_call 117; (with_reducible refine HGV.out.mono ?_); rintro r w3 ⟨n, e, b, rfl, hg⟩))
                  go_wp2
                  go_meet
                  exact ⟨n, e, b, rfl, rfl, rfl, hg⟩
                case rest =>
                  obtain ⟨n, e, b, rfl, rfl, rfl, hg⟩ := hcut
                  clear HGV c2 z0 z1 z2 z3 k0 k1 k2 k3 k4 k5 k6 k7 k8 k9 c3
                  rcases hg with ⟨rfl, f1, m3⟩ | ⟨rfl, f1, y, s3, m3, hy, hn⟩
                  rotate_left
                  · obtain ⟨nn, rfl⟩ : ∃ nn : Nat, n = nn := ⟨n.toNat, by omega⟩
                    have E := Lib.hid (show x.ask c = (y, ⟨e, nn, [], [], []⟩) by
                      unfold GS.ask
                      rw [E1.out, E2.out, E3.out, E4.out, E5.out, if_pos f1]
                      rw [Int.toNat_natCast] at hy
                      exact hy)
                    have Z3 := Lib.hid (R3.out.z.mod m3 (by simp; omega))
                    have S3 := Lib.hid s3
                    have M3 := Lib.hid (R3.out.m.nil.trans (m3.mono (T := SvS sv bT bB mB v) (fun q hq => by simp at hq; rw [svS_of]; rcases hq with h | h; exact .inl h; exact .inr (.inl h))))
                    obtain ⟨k0, k1, k2, k3, k4, k5, k6, k7, k8, k9⟩ := ans_facts Z3.out
                    clear hy f1 m3 s3
                    go_wp2
                    (try simp only [Exit.inBlock, Exit.then])
                    exact bodyPost_ret (ans_res rfl rfl (put5_arr Z3.out _ _ _ _ _)) rfl (by rw [E.out]; exact do_end (y := (y, ⟨e, nn, [], [], []⟩)) (by omega) HS.out S3.out (fun k hk => .inl hk) M3.out Z3.out (own_nil _ _ _ _) (own_nil _ _ _ _) (own_nil _ _ _ _) (fun k hk => by cases hk))
                  · have R4 := Lib.hid (R3.out.next m3)
                    have E6 := Lib.hid (show ∀ z u : GS × GA, (if freeT x.t c.hold x.wl = true then u else z) = z from fun z u => if_neg (by rw [f1]; simp))
                    obtain ⟨k0, k1, k2, k3, k4, k5, k6, k7, k8, k9⟩ := ans_facts R4.out.z
                    have c2 := R4.out.s.c2
                    have hln := HS.out.inv.len
                    obtain ⟨p0, cap0, rfl⟩ := own_len HS.out.wt
                    clear f1 m3
                    by_cases h32 : 32 ≤ x.wl.length
                    · have h32' : (32 : Int) ≤ (x.wl.length : Int) := by omega
                      have E := Lib.hid (show x.ask c = (x, .err 2) by
                        unfold GS.ask
                        rw [E1.out, E2.out, E3.out, E4.out, E5.out, E6.out, if_pos h32])
                      go_wp2
                      (try simp only [Exit.inBlock, Exit.then])
                      exact bodyPost_ret (ans_res rfl rfl (put5_arr R4.out.z _ _ _ _ _)) rfl (R4.out.err HS.out E.out)
                    · have h32' : ¬ (32 : Int) ≤ (x.wl.length : Int) := by omega
                      have E := Lib.hid (show x.ask c = ({ x with wl := x.wl ++ [c.hold] }, ⟨170, 0, [], someL x.t c.a c.b (pAg c.c c.m), []⟩) by
                        unfold GS.ask
                        rw [E1.out, E2.out, E3.out, E4.out, E5.out, E6.out, if_neg h32])
                      clear k0 k1 k2 k3 k4 k5 k6 k7 k8 k9
                      have R5 := Lib.hid (R4.out.next (Mod.refl [] wc).drew)
                      have HO := Lib.hid (own_mod R5.out.s.wt ((Mod.refl [] wc.drew).alloc (.cells #[.int .i64 c.a, .int .i64 c.b, .int .i64 c.c, .int .i64 c.m] 39)) (by simp))
                      have HN := Lib.hid (hnews_c wc.drew c)
                      have ec : hcell c.hold = [.int .i64 c.a, .int .i64 c.b, .int .i64 c.c, .int .i64 c.m] := by
                        have kb : 0 ≤ c.a ∧ c.a < c.b ∧ c.b ≤ 256 := by
                          have := K2.out
                          simp only [blk, Bool.and_eq_true, decide_eq_true_eq] at this
                          omega
                        have kc : 0 ≤ c.c ∧ c.c < 8 := inC8_iff.1 K1.out.1
                        have km : c.m = 1 ∨ c.m = 2 := by
                          have := K1.out.2
                          simpa [okM] using this
                        unfold hcell
                        rw [show ((c.hold.1 : Nat) : Int) = c.a by show ((c.a.toNat : Nat) : Int) = c.a; omega, show ((c.hold.2.1 : Nat) : Int) = c.b by show ((c.b.toNat : Nat) : Int) = c.b; omega, show ((c.hold.2.2.1 : Nat) : Int) = c.c by show ((c.c.toNat : Nat) : Int) = c.c; omega, show ((c.hold.2.2.2 : Nat) : Int) = c.m by show ((c.m.toNat : Nat) : Int) = c.m; omega]
                      have EC := Lib.hid ec
                      obtain ⟨i0, hi, hz, hz1, hz2⟩ := info_parts info_hold
                      have c2' : wc.drew.cell? ⟨sv, 2, none⟩ = some (.slice p0 x.wl.length cap0) := R5.out.s.c2
                      have z0 := R5.out.h.cell 0 (by omega)
                      have z1 := R5.out.h.cell 1 (by omega)
                      have z2 := R5.out.h.cell 2 (by omega)
                      have z3 := R5.out.h.cell 3 (by omega)
                      simp only [askH, if_true, if_false, Nat.reduceEqDiff] at z0 z1 z2 z3
                      have NSV := Lib.hid R5.out.s.apart.2.2.2.2.2.2.1
                      have hml : x.wl.length + 1 ≤ maxLen := by unfold maxLen; omega
                      have hsc : sv < wc.heap.size := R4.out.s.arr.lt
                      clear ec
                      go_wp2
                      go_cut [0] (fun s0 wx => s0 = .pointer (some ⟨sv, 0, none⟩) ∧ ∃ v5, AskQ w B sv bT bB mB (.slice p0 x.wl.length cap0) { x with wl := x.wl ++ [c.hold] } c wx v5)
                      case first =>
                        first
                          | (go_region_law (refine step_append_lies _ rfl _ _ 31 rfl B 39 i0 (.agg #[.int .i64 0, .int .i64 0, .int .i64 0, .int .i64 0]) 4 32 Tryd.underlying31 hi hz hz1 hz2 rfl (by omega) (.slice p0 x.wl.length cap0) _ _ rfl HO.out ⟨wc.heap.size, 0, none⟩ 1 1 [.int .i64 c.a, .int .i64 c.b, .int .i64 c.c, .int .i64 c.m] rfl rfl HN.out (by simp [Value.oneCell']) (by omega) hml (by omega) (by have := R5.out.s.l1; simp; omega) (wc.heap.size + 1) (by simp) ?_; intro g1 cap1 w5 ho5 hm5 hg5 hlt5; have m5 := mod_grown hm5; have c5 : w5.cell? ⟨sv, 2, none⟩ = some (.slice p0 x.wl.length cap0) := ((R5.out.s.arr.alloc _).mod m5 NSV.out).cell 2 (by omega); have f5 := ((R5.out.s.arr.alloc _).mod m5 NSV.out).free 2))
                          | fail
                        all_goals
                          have s5 := Sv.setQ (l := x.wl ++ [c.hold]) (R5.out.s.mod0 ((Mod.refl [] wc.drew).alloc (.cells #[.int .i64 c.a, .int .i64 c.b, .int .i64 c.c, .int .i64 c.m] 39))) (by rw [List.length_append, hcells_append, show hcells [c.hold] = hcell c.hold by simp [hcells], EC.out]; exact ho5) m5 (by have := inv_ask HS.out.inv c; rw [E.out] at this; exact this)
                          have FR := Lib.hid (askQ_of HS.out R5.out s5 m5 hg5)
                          clear ho5 hm5 m5 c5 f5 hlt5 s5
                          go_wp2
                          go_meet
                          exact ⟨rfl, _, FR.out⟩
                      case rest =>
                        obtain ⟨rfl, v5, hQ⟩ := hcut
                        have HQ5 := Lib.hid hQ
                        have R6 := Lib.hid (hQ.next (Mod.refl [] wc).drew)
                        have c0 : wc.drew.cell? ⟨sv, 0, none⟩ = some (.pointer (some ⟨bT, 0, none⟩)) := R6.out.s.c0
                        have z0 := R6.out.h.cell 0 (by omega)
                        have z1 := R6.out.h.cell 1 (by omega)
                        have z2 := R6.out.h.cell 2 (by omega)
                        have z3 := R6.out.h.cell 3 (by omega)
                        simp only [askH, if_true, if_false, Nat.reduceEqDiff] at z0 z1 z2 z3
                        have AG := Lib.hid (spAgainst_calls wc.drew bT x.t c.a c.b c.c c.m R6.out.s.tb)
                        clear hQ
                        go_wp2
                        first
                          | (go_region_with (first
                            | (go_at_call 118; (with_reducible refine AG.out.mono ?_); rintro e w6 ⟨v6, rfl, o6, m6⟩; obtain ⟨p6, c6, rfl⟩ := own_len o6; have R7 := Lib.hid (R6.out.next m6); obtain ⟨k0, k1, k2, k3, k4, k5, k6, k7, k8, k9⟩ := ans_facts R7.out.z)))
                          | fail
                        all_goals
                          have O6 := Lib.hid (own_base o6 (show w.heap.size ≤ wc.drew.heap.size from R6.out.m.size))
                          have RV := Lib.hid (fun k hk => sv_ne R6.out.s (own_lt' o6 k hk).1)
                          clear o6 m6
                          go_wp2
                          exact bodyPost_ret (ans_res rfl rfl (put5_arr R7.out.z _ _ _ _ _)) rfl (by rw [E.out]; exact do_end (y := ({ x with wl := x.wl ++ [c.hold] }, ⟨170, 0, [], someL x.t c.a c.b (pAg c.c c.m), []⟩)) (by omega) HS.out R7.out.s R7.out.hv R7.out.m R7.out.z (own_nil _ _ _ _) O6.out (own_nil _ _ _ _) RV.out)
end Go.Proofs.YtijjbkkcienfgaaDoor
