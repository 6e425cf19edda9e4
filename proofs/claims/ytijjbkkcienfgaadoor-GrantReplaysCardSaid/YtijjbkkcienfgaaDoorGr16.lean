/- Sweeping, cancelling. No condition beyond what stands in each. Cancelling. No condition beyond what stands in each. -/
import Derived.Test.YtijjbkkcienfgaaDoorGr14
namespace Go.Proofs.YtijjbkkcienfgaaDoor
open Go.RowKit
set_option linter.unusedVariables false
set_option linter.unusedSimpArgs false
attribute [local go_sem ↓] Go.wp_at_zero Go.wp_at_succ

theorem sv_ne {w : World} {B sv bT bB mB : Nat} {v : Value} {x : GS} (h : Sv w B sv bT bB mB v x) {k : Nat} (hk : w.heap.size ≤ k) : k ∉ SvS sv bT bB mB v := by
  intro e
  rw [svS_of] at e
  have h1 := h.arr.lt
  have h2 := h.tb.lt
  have h3 := h.bk.arr.lt
  have h4 := h.by'.lt
  rcases e with e | e | e | e | e
  · omega
  · omega
  · omega
  · omega
  · have := (own_lt' h.wt k (by simpa using e)).2
    omega
/-- Behind the sweep, ahead of serving. -/
structure SwR (w : World) (B sv bT bB mB : Nat) (v : Value) (y : GS) (dv : Value) (zs : List Nat) (wx : World) (v3 : Value) : Prop where
  s : Sv wx B sv bT bB mB v3 y
  m : Mod (SvS sv bT bB mB v) w wx
  z : Arr wx (w.heap.size + 2) 34 5 (ansF 0 0 (.slice none 0 0) (.slice none 0 0) (.slice none 0 0))
  p : wx.cell? ⟨w.heap.size, 0, none⟩ = some (.pointer (some ⟨sv, 0, none⟩))
  d : wx.ownsRow w.heap.size 3 1 dv zs.length (intsOf zs)
set_option maxRecDepth 100000 in
set_option maxHeartbeats 4000000 in
theorem sweep_calls (w : World) (B sv bT bB mB : Nat) (v : Value) (x : GS) (c : CmdT) (hS : Sv w B sv bT bB mB v x) :
    Calls Tryd.prog 109 #[.pointer (some ⟨sv, 0, none⟩), .agg c.arr] w (DoPost w B sv bT bB mB v (x.sweep c)) := by
  obtain ⟨w0, hw0⟩ : ∃ w0, w0 = w.alloc (.cells #[.pointer (some ⟨sv, 0, none⟩)] 27) := ⟨_, rfl⟩
  have hsz0 : w0.heap.size = w.heap.size + 1 := by rw [hw0]; simp
  have m0 : Mod [] w w0 := by rw [hw0]; exact (Mod.refl _ _).alloc _
  have P0 : Arr w0 w.heap.size 27 1 (fun _ => .pointer (some ⟨sv, 0, none⟩)) := by
    rw [hw0]
    exact Arr.new' w _ _ 1 _ rfl (fun i hi => by
      match i, hi with
      | 0, _ => rfl)
  obtain ⟨w1, hw1⟩ : ∃ w1, w1 = (w0.alloc (.cells c.arr 37)).alloc (.cells zeroAns 34) := ⟨_, rfl⟩
  have m1 : Mod [] w0 w1 := by rw [hw1]; exact ((Mod.refl _ _).alloc _).alloc _
  obtain ⟨A1, Z1⟩ := two_new w0 c
  rw [← hw1, hsz0] at A1 Z1
  have P1 := P0.mod m1 (by simp)
  have p1 := P1.cell 0 (by omega)
  have y3 := A1.cell 3 (by omega)
  simp only [CmdT.f, if_true, if_false, Nat.reduceEqDiff] at y3
  have hS1 := hS.mod0 (m0.trans m1)
  have C2 := Lib.hid (bkSweep_calls w1.drew bB x.u x.s x.d c.n (hS1.mod0 (Mod.refl [] w1).drew).bk)
  have KS := Lib.hid (And.intro p1 (And.intro hS1.c1 y3))
  have n1 : sv ∉ [bB] := by simpa using hS.apart.2.1
  have n2 : w.heap.size ∉ [bB] := fun e => by have := List.mem_singleton.1 e; have := hS.bk.arr.lt; omega
  have n3 : w.heap.size + 1 ∉ [bB] := fun e => by have := List.mem_singleton.1 e; have := hS.bk.arr.lt; omega
  have KSM := Lib.hid (fun w' (m : Mod [bB] w1.drew w') => And.intro (m.cell' KS.out.1 n2) (And.intro (m.cell' KS.out.2.1 n1) (m.cell' KS.out.2.2 n3)))
  have HW0 := Lib.hid hw0
  have HW1 := Lib.hid hw1
  have M1 := Lib.hid (m0.trans m1)
  have HZ1 := Lib.hid Z1
  have HP1 := Lib.hid P1
  have HS := Lib.hid hS
  have HS1 := Lib.hid hS1
  have HSZ := Lib.hid hsz0
  have E := Lib.hid (show x.sweep c = GS.serve { x with d := swD x.u x.d c.n 8, wl := x.wl.filter fun h => !deadV (swD x.u x.d c.n 8) h.2.2.1 } (swL x.u x.d c.n 8) from rfl)
  clear hw0 hw1 m0 m1 A1 Z1 P0 P1 p1 hS hS1 y3 n1 n2 n3 hsz0
  unfold zeroAns at HW1
  unfold CmdT.arr at HW1 ⊢
  unfold SweepPost at C2
  go_enter Tryd.func109, Tryd.ntmps109
  go_wp2_with fail
  rw [← HW0.out, ← HW1.out] at *
  go_region_held3 (fun w' => w'.cell? ⟨w.heap.size, 0, none⟩ = some (.pointer (some ⟨sv, 0, none⟩)) ∧ w'.cell? ⟨sv, 1, none⟩ = some (.pointer (some ⟨bB, 0, none⟩)) ∧ w'.cell? ⟨w.heap.size + 1, 3, none⟩ = some (.int .i64 c.n))
    (first | exact KS.out | exact KSM.out _ (by assumption))
    (first
      | (go_at_call 123; (with_reducible refine C2.out.mono ?_); rintro e w2 ⟨dv, rfl, o2, b2, m2⟩; obtain ⟨dp, dc, rfl⟩ := own_len o2))
  have S2 := Lib.hid (Sv.setB (HS1.out.mod0 (Mod.refl [] w1).drew) b2 m2)
  have M2 := Lib.hid (M1.out.nil.trans (Mod.of_drew m2))
  have hbt := HS.out.bk.arr.lt
  have Z2 := Lib.hid (HZ1.out.drew.mod m2 (by simp; omega))
  have P2 := Lib.hid (HP1.out.drew.mod m2 (by simp; omega))
  have O2 := Lib.hid (own_base o2 (Nat.le_trans M1.out.size (Nat.le_refl _)))
  obtain ⟨d', hd'⟩ : ∃ d', d' = swD x.u x.d c.n 8 := ⟨_, rfl⟩
  rw [← hd'] at S2 E
  clear hd'
  have hn : w.heap.size ∉ v.ownBlock.toList := fun e => by have := (own_lt' HS.out.wt _ (by simpa using e)).2; omega
  have D := Lib.hid (hdel_calls w2.drew B v x.wl 125 #[.pointer (some ⟨w.heap.size, 0, none⟩)] (fun h => deadV d' h.2.2.1) S2.out.wt (by have := S2.out.l1; have := S2.out.arr.lt; show B ≤ w2.heap.size; omega) (enters_of Tryd.func125 (by kernel_rfl) rfl)
    (fun y hy w' m => sweep1_calls w' w.heap.size sv bB x.u x.s d' y (m.cell' (P2.out.cell 0 (by omega)) hn) (m.cell' S2.out.c1 S2.out.apart.2.2.2.2.2.2.1) (S2.out.bk.drew.mod m S2.out.apart.2.2.2.2.2.2.2.2.1)))
  have p2 : w2.drew.cell? ⟨w.heap.size, 0, none⟩ = some (.pointer (some ⟨sv, 0, none⟩)) := P2.out.cell 0 (by omega)
  have c2 : w2.drew.cell? ⟨sv, 2, none⟩ = some v := S2.out.c2
  have NSV := Lib.hid S2.out.apart.2.2.2.2.2.2.1
  clear b2 m2 o2
  go_wp2
  go_cut [5] (fun s5 wx => s5 = .slice dp (swL x.u x.d c.n 8).length dc ∧ ∃ v3, SwR w B sv bT bB mB v { x with d := d', wl := x.wl.filter fun h => !deadV d' h.2.2.1 } (.slice dp (swL x.u x.d c.n 8).length dc) (swL x.u x.d c.n 8) wx v3)
  case first =>
    first
      | (go_region_with (first
        | (go_at_call 124; (with_reducible refine D.out.mono ?_); rintro e w3 ⟨v3, rfl, o3, e3, m3⟩; have c3 := m3.cell' c2 NSV.out; have f3 := (S2.out.arr.drew.mod m3 NSV.out).free 2; have p3 := m3.cell' p2 hn; obtain ⟨vp, vc, rfl⟩ := own_len o3)))
      | fail
    all_goals
      have S3 := Sv.setQ (S2.out.mod0 (Mod.refl [] w2).drew) o3 m3 (inv_filter S2.out.inv _ rfl rfl rfl)
      have M3 := (((M2.out.mono (T := SvS sv bT bB mB v) (fun q hq => by have := List.mem_singleton.1 hq; rw [svS_of]; exact .inr (.inr (.inl this)))).trans ((Mod.of_drew m3).mono (T := SvS sv bT bB mB v) (fun q hq => by rw [svS_of]; exact .inr (.inr (.inr (.inr hq)))))).setCell (p := ⟨sv, 2, none⟩) (.inl (by rw [svS_of]; exact .inl rfl)) (.slice vp (List.filter (fun x => !deadV d' x.2.2.1) x.wl).length vc))
      have ns : ∀ k, w.heap.size ≤ k → k ∉ v.ownBlock.toList := fun k hk e => by have := (own_lt' HS.out.wt k (by simpa using e)).2; omega
      have nv : ∀ k, w.heap.size ≤ k → k ∉ [sv] := fun k hk e => by have := List.mem_singleton.1 e; have := HS.out.arr.lt; omega
      have mz : Mod [sv] w3 (w3.setCell ⟨sv, 2, none⟩ (.slice vp (List.filter (fun x => !deadV d' x.2.2.1) x.wl).length vc)) := (Mod.refl _ _).setCell (.inl (by simp)) _
      have Z3 := (Z2.out.drew.mod m3 (ns _ (by omega))).mod mz (nv _ (by omega))
      have P3 := ((P2.out.drew.mod m3 (ns _ (by omega))).mod mz (nv _ (by omega))).cell 0 (by omega)
      have O3 := own_mod (own_mod O2.out ((Mod.refl [] w2).drew.nil.trans m3) (fun q hq => ns q (by have := own_lt' O2.out q hq; have := M1.out.size; omega))) mz (fun q hq => nv q (by have := own_lt' O2.out q hq; have := M1.out.size; omega))
      have FR := Lib.hid (SwR.mk S3 M3 Z3 P3 O3)
      clear m3 o3 e3 c3 f3 p3 mz S3 M3 Z3 P3 O3
      go_wp2
      go_meet
      exact ⟨rfl, _, FR.out⟩
  case rest =>
    obtain ⟨rfl, v3, hR⟩ := hcut
    have HR := Lib.hid hR
    have p4 := hR.p
    have C4 := Lib.hid (serve_calls wc B sv bT bB mB _ _ (.slice dp (swL x.u x.d c.n 8).length dc) hR.s ⟨_, _, _, rfl⟩)
    clear hR
    go_wp2_with fail
    refine C4.out.mono ?_
    rintro e w5 ⟨gv, v', rfl, o5, s5, n5, m5⟩
    obtain ⟨p5, c5, rfl⟩ := own_len o5
    have h1 := HS.out.arr.lt
    have h2 := HS.out.tb.lt
    have Z5 := Lib.hid (HR.out.z.mod m5 (by simp; omega))
    have FIN := Lib.hid (do_serve (zs := swL x.u x.d c.n 8) (rb := w.heap.size + 2) (by omega) HS.out HR.out.s HR.out.m o5 s5 n5 m5 HR.out.z HR.out.d)
    obtain ⟨q0, q1, q2, q3, q4, q5, q6, q7, q8, q9⟩ := ans_facts Z5.out
    clear o5 s5 n5 m5
    go_wp2
    exact bodyPost_ret (ans_res rfl rfl (put5_arr Z5.out _ _ _ _ _)) rfl (by rw [E.out]; exact FIN.out)

/-- Behind the queue's turn, ahead of what follows. -/
structure CnR (w : World) (B sv bT bB mB : Nat) (v : Value) (y : GS) (wx : World) (v3 : Value) : Prop where
  s : Sv wx B sv bT bB mB v3 y
  m : Mod (SvS sv bT bB mB v) w wx
  z : Arr wx (w.heap.size + 1) 34 5 (ansF 0 0 (.slice none 0 0) (.slice none 0 0) (.slice none 0 0))
  o : v3.ownBlock = v.ownBlock
theorem filt_out {x : GS} (h : GInv x) {c : Int} (hc : inC8 c = false) : (x.wl.filter fun h => decide (¬ (h.2.2.1 : Int) = c)) = x.wl := by
  rw [List.filter_eq_self]
  intro y hy
  have := (h.wl y hy).2.2.1
  simp [inC8] at hc
  simp only [decide_eq_true_eq]
  intro e
  have := hc (by omega)
  omega
theorem filt_len {l : List HoldT} {p : HoldT → Bool} (h : (l.filter p).length = l.length) : l.filter p = l := List.Sublist.eq_of_length List.filter_sublist h
set_option maxRecDepth 100000 in
set_option maxHeartbeats 4000000 in
theorem cancel_calls (w : World) (B sv bT bB mB : Nat) (v : Value) (x : GS) (c : CmdT) (hS : Sv w B sv bT bB mB v x) :
    Calls Tryd.prog 112 #[.pointer (some ⟨sv, 0, none⟩), .agg c.arr] w (DoPost w B sv bT bB mB v (x.cancel c)) := by
  obtain ⟨w1, hw1⟩ : ∃ w1, w1 = (w.alloc (.cells c.arr 37)).alloc (.cells zeroAns 34) := ⟨_, rfl⟩
  have m1 : Mod [] w w1 := by rw [hw1]; exact ((Mod.refl _ _).alloc _).alloc _
  obtain ⟨A1, Z1⟩ := two_new w c
  rw [← hw1] at A1 Z1
  have hS1 := hS.mod0 m1
  have ns : ∀ k, w.heap.size ≤ k → k ∉ v.ownBlock.toList := fun k hk e => by have := (own_lt' hS.wt k (by simpa using e)).2; omega
  have y1 : ∀ w', Mod v.ownBlock.toList w1 w' → w'.cell? ⟨w.heap.size, 1, none⟩ = some (.int .i64 c.c) := fun w' m => m.cell' (A1.cell 1 (by omega)) (ns _ (Nat.le_refl _))
  have D := Lib.hid (hdel_calls w1 B v x.wl 130 #[.pointer (some ⟨w.heap.size, 0, none⟩)] (fun h => decide ((h.2.2.1 : Int) = c.c)) hS1.wt (by have := hS1.l1; have := hS1.arr.lt; omega) (enters_of Tryd.func130 (by kernel_rfl) rfl)
    (fun y hy w' m => cancel1_calls w' w.heap.size c.c y (y1 w' m)))
  have q2 := hS1.c2
  have h1 := hS.arr.lt
  have h2 := hS.tb.lt
  have HW1 := Lib.hid hw1
  have M1 := Lib.hid m1
  have HA1 := Lib.hid A1
  have HZ1 := Lib.hid Z1
  have HS := Lib.hid hS
  have HS1 := Lib.hid hS1
  have NS := Lib.hid ns
  have NSV := Lib.hid hS1.apart.2.2.2.2.2.2.1
  have C1 := Lib.hid (fun w => gclient_calls w c.c)
  obtain ⟨p0, c0, rfl⟩ := own_len hS.wt
  rw [hw1] at q2
  clear hw1 m1 A1 Z1 hS hS1 ns y1
  unfold zeroAns at HW1 q2
  unfold CmdT.arr at HW1 q2 ⊢
  go_enter Tryd.func112, Tryd.ntmps112
  go_wp2_with fail
  rw [← HW1.out] at *
  refine D.out.mono ?_
  rintro e w3 ⟨v3, rfl, o3, e3, m3⟩
  obtain ⟨vp, vc, rfl⟩ := own_len o3
  have e9 : (fun x : HoldT => !decide ((x.2.2.1 : Int) = c.c)) = fun h => decide (¬ (h.2.2.1 : Int) = c.c) := by
    funext h
    by_cases e : (h.2.2.1 : Int) = c.c <;> simp [e]
  rw [e9] at o3 e3
  obtain ⟨fl, hfl⟩ : ∃ fl, fl = x.wl.filter fun h => decide (¬ (h.2.2.1 : Int) = c.c) := ⟨_, rfl⟩
  rw [e9]
  rw [← hfl] at o3 e3 ⊢
  have S3 := Sv.setQ HS1.out o3 m3 (inv_filter HS1.out.inv _ hfl rfl rfl)
  have M3 := ((M1.out.nil.trans (m3.mono (T := SvS sv bT bB mB (.slice p0 x.wl.length c0)) (fun q hq => by rw [svS_of]; exact .inr (.inr (.inr (.inr hq)))))).setCell (p := ⟨sv, 2, none⟩) (.inl (by rw [svS_of]; exact .inl rfl)) (.slice vp fl.length vc))
  have nv : ∀ k, w.heap.size ≤ k → k ∉ [sv] := fun k hk e => by have := List.mem_singleton.1 e; have := HS.out.arr.lt; omega
  have mz : Mod [sv] w3 (w3.setCell ⟨sv, 2, none⟩ (.slice vp fl.length vc)) := (Mod.refl _ _).setCell (.inl (by simp)) _
  have Z3 := (HZ1.out.mod m3 (NS.out _ (by omega))).mod mz (nv _ (by omega))
  have A3 := Lib.hid ((HA1.out.mod m3 (NS.out _ (by omega))).mod mz (nv _ (by omega)))
  have HR := Lib.hid (CnR.mk S3 M3 Z3 e3)
  have q3 : w3.cell? ⟨sv, 2, none⟩ = some (.slice p0 x.wl.length c0) := m3.cell' (HS1.out.c2) NSV.out
  have f3 : w3.frozen? ⟨sv, 2, none⟩ = false := (HS1.out.arr.mod m3 NSV.out).free 2
  obtain ⟨w4, hw4⟩ : ∃ w4, w4 = w3.setCell ⟨sv, 2, none⟩ (.slice vp fl.length vc) := ⟨_, rfl⟩
  rw [← hw4] at HR A3
  have HW4 := Lib.hid hw4
  have HFL := Lib.hid hfl
  have y1 : (w3.setCell ⟨sv, 2, none⟩ (.slice vp fl.length vc)).cell? ⟨w.heap.size, 1, none⟩ = some (.int .i64 c.c) := by rw [← hw4]; exact A3.out.cell 1 (by omega)
  have hne : w.heap.size ≠ sv := by omega
  clear m3 o3 e3 S3 M3 Z3 mz hw4 hfl nv
  go_wp2_with fail
  rw [← HW4.out]
  refine (C1.out _).mono ?_
  rintro e w5 ⟨rfl, rfl⟩
  have c4 := HR.out.s.c2
  obtain ⟨g0, g1, g2, g3, g4, g5, g6, g7, g8, g9⟩ := ans_facts HR.out.z
  have hsame : ∀ y : GS × GA, x.cancel c = y → y.1 = x → fl = x.wl → y.2.n = 0 → y.2.g = [] → y.2.r = [] → y.2.z = [] → DoPost w B sv bT bB mB (.slice p0 x.wl.length c0) (x.cancel c) (.returned (.agg #[.int .i64 y.2.e, .int .i64 0, .slice none 0 0, .slice none 0 0, .slice none 0 0])) (put5 w4 (w.heap.size + 1) (.int .i64 y.2.e) (.int .i64 0) (.slice none 0 0) (.slice none 0 0) (.slice none 0 0)) := by
    rintro ⟨y1, ⟨e, n, g, r, z⟩⟩ hy rfl hf h1 h2 h3 h4
    simp only at h1 h2 h3 h4
    subst h1 h2 h3 h4
    rw [hy]
    have s4 := HR.out.s
    rw [hf] at s4
    exact do_end (y := (y1, ⟨e, 0, [], [], []⟩)) (by omega) HS.out s4 (fun k hk => .inl (HR.out.o.symm.trans (by rw [hf]; exact hk))) HR.out.m HR.out.z (own_nil _ _ _ _) (own_nil _ _ _ _) (own_nil _ _ _ _) (fun k hk => by cases hk)
  have SAME := Lib.hid hsame
  clear hsame y1 q3 f3
  cases hc : inC8 c.c with
  | false =>
    have E := Lib.hid (show x.cancel c = (x, .err 1) by unfold GS.cancel; rw [if_pos hc])
    have F := Lib.hid (HFL.out.trans (filt_out HS.out.inv hc))
    clear hc
    go_wp2
    (try simp only [Exit.inBlock, Exit.then])
    exact bodyPost_ret (ans_res rfl rfl (put5_arr HR.out.z _ _ _ _ _)) rfl (SAME.out _ E.out rfl F.out rfl rfl rfl rfl)
  | true =>
    by_cases hl : fl.length = x.wl.length
    · have hl1 : ((fl.length : Int) == (x.wl.length : Int)) = true := by simp; omega
      have E := Lib.hid (show x.cancel c = (x, .err 3) by unfold GS.cancel; rw [if_neg (by simp [hc]), ← HFL.out, if_pos hl])
      have F := Lib.hid (HFL.out.trans (filt_len (by rw [← HFL.out]; exact hl)))
      clear hc hl
      go_wp2
      (try simp only [Exit.inBlock, Exit.then])
      exact bodyPost_ret (ans_res rfl rfl (put5_arr HR.out.z _ _ _ _ _)) rfl (SAME.out _ E.out rfl F.out rfl rfl rfl rfl)
    · have hl1 : ((fl.length : Int) == (x.wl.length : Int)) = false := by simp; omega
      have E := Lib.hid (show x.cancel c = GS.serve { x with wl := fl } [] by unfold GS.cancel; rw [if_neg (by simp [hc]), ← HFL.out, if_neg hl])
      have C4 := Lib.hid (serve_calls w4 B sv bT bB mB _ _ (.slice none 0 0) HR.out.s ⟨_, _, _, rfl⟩)
      clear hc hl
      go_wp2_with fail
      refine C4.out.mono ?_
      rintro e w5 ⟨gv, v', rfl, o5, s5, n5, m5⟩
      obtain ⟨p5, c5, rfl⟩ := own_len o5
      have Z5 := Lib.hid (HR.out.z.mod m5 (by simp; omega))
      have FIN := Lib.hid (do_serve (zs := []) (rb := w.heap.size + 1) (by omega) HS.out HR.out.s HR.out.m o5 s5 n5 m5 HR.out.z (own_nil _ _ _ _))
      obtain ⟨r0, r1, r2, r3, r4, r5, r6, r7, r8, r9⟩ := ans_facts Z5.out
      clear o5 s5 n5 m5
      go_wp2
      exact bodyPost_ret (ans_res rfl rfl (put5_arr Z5.out _ _ _ _ _)) rfl (by rw [E.out]; exact FIN.out)
end Go.Proofs.YtijjbkkcienfgaaDoor
