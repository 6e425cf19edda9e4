/- Any command; a new service; what it holds, who waits. Condition: the table of kinds lies as laid. A new service; what it holds, who waits; who is dead, till when. No condition beyond what stands in each. The service in the laws' hands; the begun service, the show. Condition: the table of kinds and the whole range lie as laid. -/
import Derived.Test.YtijjbkkcienfgaaDoorGr20
namespace Go.Proofs.YtijjbkkcienfgaaDoor
open Go.RowKit
set_option linter.unusedVariables false
set_option linter.unusedSimpArgs false
attribute [local go_sem ↓] Go.wp_at_zero Go.wp_at_succ

/-- The function of each kind. -/
def kindF (k : Nat) : Nat := if k = 1 then 105 else if k = 2 then 106 else if k = 3 then 107 else if k = 4 then 108
  else if k = 5 then 109 else if k = 6 then 110 else if k = 7 then 111 else 112
/-- The table of kinds lies as laid. -/
def Kd (w : World) : Prop := ∀ k, 1 ≤ k → k ≤ 8 → w.cell? ⟨0, k, none⟩ = some (.func (.func (kindF k)) #[] #[])
theorem Kd.mod {S : List Nat} {w w' : World} (h : Kd w) (m : Mod S w w') (hs : 0 ∉ S) : Kd w' := fun k h1 h2 => m.cell' (h k h1 h2) hs
theorem Kd.drew {w : World} (h : Kd w) : Kd w.drew := h
theorem enters_kind (k : Nat) (h1 : 1 ≤ k) (h2 : k ≤ 8) : ∀ args w, (callFunc (kindF k) args).run Tryd.prog w = .ok (.enter (kindF k) args) w := by
  match k, h1, h2 with
  | 1, _, _ => exact enters_of Tryd.func105 (by kernel_rfl) rfl
  | 2, _, _ => exact enters_of Tryd.func106 (by kernel_rfl) rfl
  | 3, _, _ => exact enters_of Tryd.func107 (by kernel_rfl) rfl
  | 4, _, _ => exact enters_of Tryd.func108 (by kernel_rfl) rfl
  | 5, _, _ => exact enters_of Tryd.func109 (by kernel_rfl) rfl
  | 6, _, _ => exact enters_of Tryd.func110 (by kernel_rfl) rfl
  | 7, _, _ => exact enters_of Tryd.func111 (by kernel_rfl) rfl
  | 8, _, _ => exact enters_of Tryd.func112 (by kernel_rfl) rfl
theorem kind_calls (w : World) (B sv bT bB mB : Nat) (v : Value) (x : GS) (c : CmdT) (hS : Sv w B sv bT bB mB v x) (k : Nat) (hk : c.k = k) (h1 : 1 ≤ k) (h2 : k ≤ 8) :
    Calls Tryd.prog (kindF k) #[.pointer (some ⟨sv, 0, none⟩), .agg c.arr] w (DoPost w B sv bT bB mB v (x.Do c)) := by
  match k, h1, h2 with
  | 1, _, _ => rw [show x.Do c = x.ask c by simp [GS.Do, hk]]; exact ask_calls w B sv bT bB mB v x c hS
  | 2, _, _ => rw [show x.Do c = x.release c by simp [GS.Do, hk]]; exact release_calls w B sv bT bB mB v x c hS
  | 3, _, _ => rw [show x.Do c = x.weaken c by simp [GS.Do, hk]]; exact weaken_calls w B sv bT bB mB v x c hS
  | 4, _, _ => rw [show x.Do c = x.renew c by simp [GS.Do, hk]]; exact renew_calls w B sv bT bB mB v x c hS
  | 5, _, _ => rw [show x.Do c = x.sweep c by simp [GS.Do, hk]]; exact sweep_calls w B sv bT bB mB v x c hS
  | 6, _, _ => rw [show x.Do c = x.recover c by simp [GS.Do, hk]]; exact recover_calls w B sv bT bB mB v x c hS
  | 7, _, _ => rw [show x.Do c = x.done c by simp [GS.Do, hk]]; exact done_calls w B sv bT bB mB v x c hS
  | 8, _, _ => rw [show x.Do c = x.cancel c by simp [GS.Do, hk]]; exact cancel_calls w B sv bT bB mB v x c hS
theorem do_out {x : GS} {c : CmdT} (h : c.k < 1 ∨ 8 < c.k) : x.Do c = (x, .err 1) := by
  unfold GS.Do
  rw [if_neg (by omega), if_neg (by omega), if_neg (by omega), if_neg (by omega), if_neg (by omega), if_neg (by omega), if_neg (by omega), if_neg (by omega)]
theorem ans_new2 (w : World) (o : Obj) (e n : Int) (gv rv dv : Value) : Arr ((w.alloc o).alloc (.cells #[.int .i64 e, .int .i64 n, gv, rv, dv] 34)) (w.heap.size + 1) 34 5 (ansF e n gv rv dv) := by
  have h := ans_new (w.alloc o) e n gv rv dv
  have e : (w.alloc o).heap.size = w.heap.size + 1 := by simp
  rw [e] at h
  exact h
theorem do_err_new {w : World} {B sv bT bB mB : Nat} {v : Value} {x : GS} {y : GS × GA} {e : Int} {o o' : Obj} (h0 : Sv w B sv bT bB mB v x) (hy : y = (x, .err e)) :
    DoPost w B sv bT bB mB v y (.returned (.agg #[.int .i64 e, .int .i64 0, .slice none 0 0, .slice none 0 0, .slice none 0 0])) ((w.alloc o).alloc o') := by
  subst hy
  have m : Mod [] w ((w.alloc o).alloc o') := ((Mod.refl _ _).alloc _).alloc _
  exact ⟨_, _, _, v, rfl, own_nil _ _ _ _, own_nil _ _ _ _, own_nil _ _ _ _, h0.mod0 m, fun k hk => .inl hk, m.nil, fun k hk => by cases hk⟩
set_option maxRecDepth 100000 in
set_option maxHeartbeats 4000000 in
theorem do_calls (w : World) (B sv bT bB mB : Nat) (v : Value) (x : GS) (c : CmdT) (hS : Sv w B sv bT bB mB v x) (hK : Kd w) :
    Calls Tryd.prog 14 #[.pointer (some ⟨sv, 0, none⟩), .agg c.arr] w (DoPost w B sv bT bB mB v (x.Do c)) := by
  obtain ⟨w1, hw1⟩ : ∃ w1, w1 = (w.alloc (.cells c.arr 37)).alloc (.cells zeroAns 34) := ⟨_, rfl⟩
  have m1 : Mod [] w w1 := by rw [hw1]; exact ((Mod.refl _ _).alloc _).alloc _
  obtain ⟨A1, Z1⟩ := two_new w c
  rw [← hw1] at A1 Z1
  have HW1 := Lib.hid hw1
  have HS := Lib.hid hS
  have M1 := Lib.hid m1
  have HZ1 := Lib.hid Z1
  have y0 := A1.cell 0 (by omega)
  simp only [CmdT.f, if_true, if_false, Nat.reduceEqDiff] at y0
  obtain ⟨g0, g1, g2, g3, g4, g5, g6, g7, g8, g9⟩ := ans_facts Z1
  by_cases hlo : c.k < 1
  · have E := Lib.hid (do_out (x := x) (c := c) (.inl hlo))
    rw [hw1] at y0 g0 g1 g2 g3 g4 g5 g6 g7 g8 g9
    clear hw1 m1 A1 Z1 hS
    unfold zeroAns at HW1 y0 g0 g1 g2 g3 g4 g5 g6 g7 g8 g9
    unfold CmdT.arr at HW1 y0 g0 g1 g2 g3 g4 g5 g6 g7 g8 g9 ⊢
    go_enter Tryd.func14, Tryd.ntmps14
    go_wp2
    exact bodyPost_ret (ans_res rfl rfl (ans_new2 w _ 1 0 (.slice none 0 0) (.slice none 0 0) (.slice none 0 0))) rfl (do_err_new HS.out E.out)
  by_cases hhi : 9 ≤ c.k
  · have E := Lib.hid (do_out (x := x) (c := c) (.inr (by omega)))
    rw [hw1] at y0 g0 g1 g2 g3 g4 g5 g6 g7 g8 g9
    clear hw1 m1 A1 Z1 hS
    unfold zeroAns at HW1 y0 g0 g1 g2 g3 g4 g5 g6 g7 g8 g9
    unfold CmdT.arr at HW1 y0 g0 g1 g2 g3 g4 g5 g6 g7 g8 g9 ⊢
    go_enter Tryd.func14, Tryd.ntmps14
    go_wp2
    exact bodyPost_ret (ans_res rfl rfl (ans_new2 w _ 1 0 (.slice none 0 0) (.slice none 0 0) (.slice none 0 0))) rfl (do_err_new HS.out E.out)
  · obtain ⟨k, hk⟩ : ∃ k : Nat, c.k = k := ⟨c.k.toNat, by omega⟩
    have k1 : 1 ≤ k := by omega
    have k8 : k ≤ 8 := by omega
    have i0 : (0 : Int) ≤ c.k := by omega
    have i1 : c.k < 9 := by omega
    have hS1 := hS.mod0 (m1.trans (Mod.refl [] w1).drew)
    have hsz := hS.arr.lt
    have CK := kind_calls w1.drew B sv bT bB mB v x c hS1 k hk k1 k8
    obtain ⟨F, hF⟩ : ∃ F, F = kindF k := ⟨_, rfl⟩
    have heg := enters_kind k k1 k8
    have kc : w1.drew.cell? ⟨0, k, none⟩ = some (.func (.func (kindF k)) #[] #[]) := (hK.mod m1 (by simp)).drew k k1 k8
    rw [← hF] at CK heg kc
    have HCK := Lib.hid CK
    have HS1 := Lib.hid hS1
    have HK := Lib.hid hk
    have NZ := Lib.hid (sv_ne hS (show w.heap.size ≤ w.heap.size + 1 by omega))
    have y0' : w1.drew.cell? ⟨w.heap.size, 0, none⟩ = some (.int .i64 k) := by rw [← hk]; exact y0
    have cs := fun i hi => (A1.drew).cell i hi
    have a0 := cs 0 (by omega)
    have a1 := cs 1 (by omega)
    have a2 := cs 2 (by omega)
    have a3 := cs 3 (by omega)
    have a4 := cs 4 (by omega)
    have a5 := cs 5 (by omega)
    have a6 := cs 6 (by omega)
    have a7 := cs 7 (by omega)
    have a8 := cs 8 (by omega)
    simp only [CmdT.f, if_true, if_false, Nat.reduceEqDiff] at a0 a1 a2 a3 a4 a5 a6 a7 a8
    have i0' : (0 : Int) ≤ (k : Int) := by omega
    have i1' : (k : Int) < 9 := by omega
    have HZD := Lib.hid HZ1.out.drew
    rw [hw1] at y0
    clear hw1 m1 A1 Z1 hS hS1 CK hF cs hK
    unfold zeroAns at HW1 y0
    unfold CmdT.arr at HW1 HCK y0 ⊢
    rw [hk] at y0 a0 HCK HW1 i0 i1 hlo hhi ⊢
    clear hk
    go_enter Tryd.func14, Tryd.ntmps14
    go_wp2_with fail
    rw [← HW1.out] at *
    first
      | (go_region_with ((with_reducible refine HCK.out.mono ?_); rintro e w2 ⟨gv, rv, dv, v', rfl, o1, o2, o3, s2, hv, m2, hrv⟩; obtain ⟨p1, c1, rfl⟩ := own_len o1; obtain ⟨p2, c2, rfl⟩ := own_len o2; obtain ⟨p3, c3, rfl⟩ := own_len o3; have Z2 := Lib.hid (HZD.out.mod m2 NZ.out); obtain ⟨k0, k1, k2, k3, k4, k5, k6, k7, k8, k9⟩ := ans_facts Z2.out))
      | fail
    all_goals
      have hle : w.heap.size ≤ w1.drew.heap.size := M1.out.size
      have S2 := Lib.hid s2
      have M2 := Lib.hid (M1.out.drew.nil.trans m2)
      have O := Lib.hid (And.intro (own_base o1 hle) (And.intro (own_base o2 hle) (own_base o3 hle)))
      have HV := Lib.hid (show ∀ q, v'.ownBlock = some q → v.ownBlock = some q ∨ w.heap.size ≤ q from fun q hq => (hv q hq).imp id (Nat.le_trans hle))
      have RV := Lib.hid hrv
      clear o1 o2 o3 s2 hv m2 hle hrv
      go_wp2
      exact bodyPost_ret (ans_res rfl rfl (put5_arr Z2.out _ _ _ _ _)) rfl (do_end (y := x.Do c) (by omega) HS.out S2.out HV.out M2.out Z2.out O.out.1 O.out.2.1 O.out.2.2 RV.out)

theorem holds_calls (w : World) (B sv bT bB mB : Nat) (v : Value) (x : GS) (hS : Sv w B sv bT bB mB v x) :
    Calls Tryd.prog 16 #[.pointer (some ⟨sv, 0, none⟩)] w (SomeP w (listL x.t)) := by
  have C := Lib.hid (spList_calls w bT x.t hS.tb hS.wh)
  have c0 := hS.c0
  clear hS
  go_enter Tryd.func16, Tryd.ntmps16
  go_wp2_with fail
  refine C.out.mono ?_
  rintro e w2 ⟨v2, rfl, o2, m2⟩
  have P := Lib.hid (And.intro o2 m2)
  clear o2 m2
  go_wp2
  go_ret
  exact ⟨v2, rfl, P.out.1, P.out.2⟩
theorem waits_calls (w : World) (B sv bT bB mB : Nat) (v : Value) (x : GS) (hS : Sv w B sv bT bB mB v x) :
    Calls Tryd.prog 25 #[.pointer (some ⟨sv, 0, none⟩)] w (SomeP w x.wl) := by
  have C := Lib.hid (hclone_calls w B v x.wl hS.wt (by have := hS.inv.len; omega))
  have c2 := hS.c2
  clear hS
  go_enter Tryd.func25, Tryd.ntmps25
  go_wp2_with fail
  refine C.out.mono ?_
  rintro e w2 ⟨v2, rfl, o2, m2⟩
  have P := Lib.hid (And.intro o2 m2)
  clear o2 m2
  go_wp2
  go_ret
  exact ⟨v2, rfl, P.out.1, P.out.2⟩
def NewP (w : World) (e : Ending) (w' : World) : Prop := ∃ sv bT bB mB, e = .returned (.pointer (some ⟨sv, 0, none⟩)) ∧ Sv w' w.heap.size sv bT bB mB (.slice none 0 0) GS.new ∧ Mod [] w w'
set_option maxRecDepth 100000 in
set_option maxHeartbeats 2000000 in
theorem new_calls (w : World) (hW : Whole w) : Calls Tryd.prog 13 #[] w (NewP w) := by
  have C1 := Lib.hid (spNew_calls w)
  have C2 := Lib.hid (fun w => bkNew_calls w)
  have hl : 1 < w.heap.size := World.block_lt_of_cell? w _ hW.1
  go_enter Tryd.func13, Tryd.ntmps13
  go_wp2_with (first
    | (go_at_call 35; refine C1.out.mono ?_; rintro e w2 ⟨rfl, hw2⟩; have HW2 := Lib.hid hw2; clear hw2)
    | (go_at_call 36; refine (C2.out _).mono ?_; rintro e w3 ⟨rfl, b3, m3⟩; have HB := Lib.hid (And.intro b3 m3); clear b3 m3; have hmk := run_makeMap (P := Tryd.prog) 45 w3))
  obtain ⟨b3, m3⟩ := HB.out
  have e2 : w2.heap.size = w.heap.size + 1 := by rw [← HW2.out]; simp
  have m2 : Mod [] w w2 := by rw [← HW2.out]; exact (Mod.refl _ _).alloc _
  have t2 : Tb w2 w.heap.size (fun _ _ => 0) := by rw [← HW2.out]; exact tb_new w
  have s3 := m3.size
  have e4 : (w3.alloc (.map #[] 0)).heap.size = w3.heap.size + 1 := by simp
  have m5 : Mod [] w3 ((w3.alloc (.map #[] 0)).alloc (.cells #[.pointer (some ⟨w.heap.size, 0, none⟩), .pointer (some ⟨w2.heap.size, 0, none⟩), .slice none 0 0, .int .i64 0, .map (some w3.heap.size)] 47)) := ((Mod.refl _ _).alloc _).alloc _
  have A5 := Arr.new' (w3.alloc (.map #[] 0)) #[.pointer (some ⟨w.heap.size, 0, none⟩), .pointer (some ⟨w2.heap.size, 0, none⟩), .slice none 0 0, .int .i64 0, .map (some w3.heap.size)] 47 5 (svF w.heap.size w2.heap.size w3.heap.size (.slice none 0 0) GS.new.last) rfl (fun i hi => by
    match i, hi with
    | 0, _ | 1, _ | 2, _ | 3, _ | 4, _ => rfl)
  rw [e4] at A5
  have S5 := Lib.hid (Sv.mk (B := w.heap.size) (v := .slice none 0 0) (x := GS.new) A5 (t2.mod (m3.trans m5) (by simp)) (b3.mod m5 (by simp)) (own_nil _ _ _ _) ((ByI.new w3).mod ((Mod.refl [] _).alloc _) (by simp)) (Sv.whole_mod hW ((m2.trans m3).trans m5) (by simp)) inv_new hl (by omega) (Nat.le_refl _) (by omega) (by have := m2.size; omega))
  have M5 := Lib.hid ((m2.trans m3).trans m5)
  clear b3 m3 m2 t2 m5 A5
  go_wp2
  go_ret
  exact ⟨_, _, _, _, rfl, S5.out, M5.out⟩

/-- A service that a law has made. -/
structure LawS (W w : World) (B sv bT bB mB : Nat) (v : Value) (x : GS) : Prop where
  s : Sv w B sv bT bB mB v x
  k : Kd w
  m : Mod [] W w
  b : W.heap.size ≤ B
  lo : 1 < W.heap.size
theorem svS_low {w : World} {B sv bT bB mB : Nat} {v : Value} {x : GS} (h : Sv w B sv bT bB mB v x) {k : Nat} (hk : k ∈ SvS sv bT bB mB v) : B ≤ k ∧ k < w.heap.size := by
  rw [svS_of] at hk
  have h1 := h.arr.lt
  have h2 := h.tb.lt
  have h3 := h.bk.arr.lt
  have h4 := h.by'.lt
  have l1 := h.l1
  have l2 := h.l2
  have l3 := h.l3
  have l4 := h.l4
  rcases hk with e | e | e | e | e
  · omega
  · omega
  · omega
  · omega
  · exact own_lt' h.wt k (by simpa using e)
theorem LawS.mod0 {W w w' : World} {B sv bT bB mB : Nat} {v : Value} {x : GS} (h : LawS W w B sv bT bB mB v x) (m : Mod [] w w') : LawS W w' B sv bT bB mB v x :=
  ⟨h.s.mod0 m, h.k.mod m (by simp), h.m.trans m, h.b, h.lo⟩
theorem LawS.far {W w w' : World} {B sv bT bB mB : Nat} {v : Value} {x : GS} {S : List Nat} (h : LawS W w B sv bT bB mB v x) (m : Mod S w w') (hS : ∀ k, k ∈ S → W.heap.size ≤ k ∧ k ∉ SvS sv bT bB mB v) : LawS W w' B sv bT bB mB v x := by
  have hlo := h.lo
  have hw : ∀ k, k < W.heap.size → k ∉ S := fun k hk e => by have := (hS _ e).1; omega
  refine ⟨h.s.mod m (fun e => (hS _ e).2 ?_) (fun e => (hS _ e).2 ?_) (fun e => (hS _ e).2 ?_) (fun e => (hS _ e).2 ?_) (fun k hk e => (hS _ e).2 ?_) (hw _ hlo), h.k.mod m (hw _ (by omega)), h.m.fresh m (fun k hk => .inr (hS _ hk).1), h.b, h.lo⟩
  · rw [svS_of]; exact .inl rfl
  · rw [svS_of]; exact .inr (.inl rfl)
  · rw [svS_of]; exact .inr (.inr (.inl rfl))
  · rw [svS_of]; exact .inr (.inr (.inr (.inl rfl)))
  · rw [svS_of]; exact .inr (.inr (.inr (.inr (by simpa using hk))))
/-- What a command comes to, in a law's hands. -/
def DoL (W w : World) (B sv bT bB mB : Nat) (v : Value) (y : GS × GA) (e : Ending) (w' : World) : Prop :=
  ∃ gp gc rp rc dp dc v', e = .returned (.agg #[.int .i64 y.2.e, .int .i64 y.2.n, .slice gp y.2.g.length gc, .slice rp y.2.r.length rc, .slice dp y.2.z.length dc]) ∧
    w'.ownsRow w.heap.size 71 5 (.slice gp y.2.g.length gc) y.2.g.length (gcells y.2.g) ∧ w'.ownsRow w.heap.size 39 4 (.slice rp y.2.r.length rc) y.2.r.length (hcells y.2.r) ∧ w'.ownsRow w.heap.size 3 1 (.slice dp y.2.z.length dc) y.2.z.length (intsOf y.2.z) ∧
    LawS W w' B sv bT bB mB v' y.1 ∧ (∀ k, v'.ownBlock = some k → v.ownBlock = some k ∨ w.heap.size ≤ k) ∧ Mod (SvS sv bT bB mB v) w w'
theorem doL_calls (W w : World) (B sv bT bB mB : Nat) (v : Value) (x : GS) (c : CmdT) (h : LawS W w B sv bT bB mB v x) :
    Calls Tryd.prog 14 #[.pointer (some ⟨sv, 0, none⟩), .agg #[.int .i64 c.k, .int .i64 c.c, .int .i64 c.q, .int .i64 c.n, .int .i64 c.l, .int .i64 c.a, .int .i64 c.b, .int .i64 c.m, .int .i64 c.o]] w (DoL W w B sv bT bB mB v (x.Do c)) := by
  refine (do_calls w B sv bT bB mB v x c h.s h.k).mono ?_
  rintro e w' ⟨gv, rv, dv, v', rfl, o1, o2, o3, s, hv, m, hrv⟩
  obtain ⟨p1, c1, rfl⟩ := own_len o1
  obtain ⟨p2, c2, rfl⟩ := own_len o2
  obtain ⟨p3, c3, rfl⟩ := own_len o3
  have low := fun k (hk : k ∈ SvS sv bT bB mB v) => svS_low h.s hk
  have hlo := h.s.lo
  exact ⟨p1, c1, p2, c2, p3, c3, v', rfl, o1, o2, o3, ⟨s, h.k.mod m (fun e => by have := (low _ e).1; omega), h.m.fresh m (fun k hk => .inr (by have := (low _ hk).1; have := h.b; omega)), h.b, h.lo⟩, hv, m⟩
/-- A block that is none of the service's stays none. -/
theorem svS_next {sv bT bB mB : Nat} {v v' : Value} {n k : Nat} (hv : ∀ k, v'.ownBlock = some k → v.ownBlock = some k ∨ n ≤ k) (hk : k ∉ SvS sv bT bB mB v) (hn : k < n) : k ∉ SvS sv bT bB mB v' := by
  rw [svS_of] at hk ⊢
  rintro (e | e | e | e | e)
  · exact hk (.inl e)
  · exact hk (.inr (.inl e))
  · exact hk (.inr (.inr (.inl e)))
  · exact hk (.inr (.inr (.inr (.inl e))))
  · rcases hv k (by simpa using e) with h | h
    · exact hk (.inr (.inr (.inr (.inr (by simpa using h)))))
    · omega
def begC (k : Nat) : CmdT := ⟨4, k, 1, 0, 1000, 0, 0, 0, 0⟩
def bg : Nat → GS
  | 0 => GS.new
  | k + 1 => ((bg k).Do (begC k)).1
def BegP (w : World) (e : Ending) (w' : World) : Prop := ∃ sv bT bB mB v, e = .returned (.pointer (some ⟨sv, 0, none⟩)) ∧ LawS w w' w.heap.size sv bT bB mB v (bg 4)
set_option maxRecDepth 100000 in
set_option maxHeartbeats 2000000 in
theorem begun_calls (w : World) (hW : Whole w) (hK : Kd w) : Calls Tryd.prog 19 #[] w (BegP w) := by
  have C1 := Lib.hid (new_calls w hW)
  have HK := Lib.hid hK
  have hl : 1 < w.heap.size := World.block_lt_of_cell? w _ hW.1
  clear hK hW
  go_enter Tryd.func19, Tryd.ntmps19
  go_wp2_with fail
  refine C1.out.mono ?_
  rintro e w1 ⟨sv, bT, bB, mB, rfl, s1, m1⟩
  have L1 := Lib.hid (show LawS w w1 w.heap.size sv bT bB mB (.slice none 0 0) (bg 0) from ⟨s1, HK.out.mod m1 (by simp), m1, Nat.le_refl _, hl⟩)
  clear s1 m1 HK C1
  go_wp2
  go_loopw [2] (fun i wr => ∃ (k : Nat) (v : Value), k ≤ 4 ∧ i = .int .i64 k ∧ LawS w wr w.heap.size sv bT bB mB v (bg k)) (fun i _ => 4 - (intOf i).toNat)
  case atStart => exact ⟨0, _, Nat.zero_le _, rfl, L1.out⟩
  case round =>
    obtain ⟨k, v, hk, rfl, hI⟩ := hrel
    by_cases hlt : k < 4
    · have i1 : (k : Int) < 4 := by omega
      have C := Lib.hid (doL_calls w wr w.heap.size sv bT bB mB v (bg k) (begC k) hI)
      unfold begC at C
      simp only at C
      clear hI
      go_wp2_with fail
      refine C.out.mono ?_
      rintro e w2 ⟨gp, gc, rp, rc, dp, dc, v', rfl, o1, o2, o3, s2, hv, m2⟩
      have S2 := Lib.hid s2
      clear o1 o2 o3 s2 hv m2
      go_wp2
      go_roundw
      case rel => exact ⟨k + 1, v', by omega, by go_num, S2.out⟩
      case measure => simp [intOf]; omega
    · obtain rfl : k = 4 := by omega
      have HI := Lib.hid hI
      clear hI
      go_wp2
      go_ret
      exact ⟨_, _, _, _, _, rfl, HI.out⟩
def shC : CmdT := ⟨1, 1, 0, 0, 0, 0, 9, 2, 0⟩
theorem show_e : ((bg 4).Do shC).2.e = 0 := by decide +kernel
theorem show_n : ((bg 4).Do shC).2.n = 1 := by decide +kernel
theorem show_l : (listL ((bg 4).Do shC).1.t).length = 1 := by decide +kernel
set_option maxRecDepth 100000 in
set_option maxHeartbeats 2000000 in
theorem shown_calls (w : World) (hW : Whole w) (hK : Kd w) : Calls Tryd.prog 12 #[] w fun e w' => e = .returned (.bool true) ∧ Mod [] w w' := by
  have C1 := Lib.hid (begun_calls w hW hK)
  clear hK hW
  go_enter Tryd.func12, Tryd.ntmps12
  go_wp2_with fail
  refine C1.out.mono ?_
  rintro e w1 ⟨sv, bT, bB, mB, v, rfl, l1⟩
  have C2 := (doL_calls w w1 w.heap.size sv bT bB mB v (bg 4) shC l1)
  unfold shC at C2
  simp only at C2
  rw [show (⟨1, 1, 0, 0, 0, 0, 9, 2, 0⟩ : CmdT) = shC from rfl] at C2
  have HC2 := Lib.hid C2
  clear C2 l1 C1
  go_wp2_with fail
  refine HC2.out.mono ?_
  rintro e w2 ⟨gp, gc, rp, rc, dp, dc, v', rfl, o1, o2, o3, s2, hv, m2⟩
  have C3 := Lib.hid (holds_calls (w2.alloc (.cells #[.int .i64 ((bg 4).Do shC).2.e, .int .i64 ((bg 4).Do shC).2.n, .slice gp ((bg 4).Do shC).2.g.length gc, .slice rp ((bg 4).Do shC).2.r.length rc, .slice dp ((bg 4).Do shC).2.z.length dc] 34)) w.heap.size sv bT bB mB v' _ (s2.s.mod0 ((Mod.refl _ _).alloc _)))
  have S2 := Lib.hid (s2.m.alloc (.cells #[.int .i64 ((bg 4).Do shC).2.e, .int .i64 ((bg 4).Do shC).2.n, .slice gp ((bg 4).Do shC).2.g.length gc, .slice rp ((bg 4).Do shC).2.r.length rc, .slice dp ((bg 4).Do shC).2.z.length dc] 34))
  rw [show_e, show_n] at C3 S2 ⊢
  generalize ((bg 4).Do shC).2.g.length = n1 at *
  generalize ((bg 4).Do shC).2.r.length = n2 at *
  generalize ((bg 4).Do shC).2.z.length = n3 at *
  clear o1 o2 o3 s2 hv m2 HC2
  go_wp2_with (go_at_call 16; refine C3.out.mono ?_; rintro e w3 ⟨v3, rfl, o3, m3⟩; obtain ⟨p3, c3, rfl⟩ := own_len o3; rw [show_l])
  go_ret
  exact ⟨rfl, S2.out.trans m3⟩
end Go.Proofs.YtijjbkkcienfgaaDoor
