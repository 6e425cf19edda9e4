/- Releasing, weakening, renewing. No condition beyond what stands in each. Renewing, sweeping. No condition beyond what stands in each. -/
import Derived.Test.YtijjbkkcienfgaaDoorGr13
namespace Go.Proofs.YtijjbkkcienfgaaDoor
open Go.RowKit
set_option linter.unusedVariables false
set_option linter.unusedSimpArgs false
attribute [local go_sem ↓] Go.wp_at_zero Go.wp_at_succ

/-- The service's blocks. -/
def SvS (sv bT bB mB : Nat) (v : Value) : List Nat := sv :: bT :: bB :: mB :: v.ownBlock.toList
theorem svS_of {sv bT bB mB : Nat} {v : Value} {k : Nat} : k ∈ SvS sv bT bB mB v ↔ k = sv ∨ k = bT ∨ k = bB ∨ k = mB ∨ k ∈ v.ownBlock.toList := by simp [SvS]
/-- What a command comes to: its answer, and the service behind it. -/
def DoPost (w : World) (B sv bT bB mB : Nat) (v : Value) (y : GS × GA) (e : Ending) (w' : World) : Prop :=
  ∃ gv rv dv v', e = .returned (.agg #[.int .i64 y.2.e, .int .i64 y.2.n, gv, rv, dv]) ∧ w'.ownsRow w.heap.size 71 5 gv y.2.g.length (gcells y.2.g) ∧
    w'.ownsRow w.heap.size 39 4 rv y.2.r.length (hcells y.2.r) ∧ w'.ownsRow w.heap.size 3 1 dv y.2.z.length (intsOf y.2.z) ∧
    Sv w' B sv bT bB mB v' y.1 ∧ (∀ k, v'.ownBlock = some k → v.ownBlock = some k ∨ w.heap.size ≤ k) ∧ Mod (SvS sv bT bB mB v) w w' ∧ (∀ k, rv.ownBlock = some k → k ∉ SvS sv bT bB mB v')
def zeroAns : Array Value := #[.int .i64 0, .int .i64 0, .slice none 0 0, .slice none 0 0, .slice none 0 0]
/-- Behind the first two steps: the command's own block, the answer's. -/
theorem two_new (w : World) (c : CmdT) :
    Arr ((w.alloc (.cells c.arr 37)).alloc (.cells zeroAns 34)) w.heap.size 37 9 c.f ∧
    Arr ((w.alloc (.cells c.arr 37)).alloc (.cells zeroAns 34)) (w.heap.size + 1) 34 5 (ansF 0 0 (.slice none 0 0) (.slice none 0 0) (.slice none 0 0)) := by
  have hz := ans_new (w.alloc (.cells c.arr 37)) 0 0 (.slice none 0 0) (.slice none 0 0) (.slice none 0 0)
  have e : (w.alloc (.cells c.arr 37)).heap.size = w.heap.size + 1 := by simp
  rw [e] at hz
  exact ⟨(cmd_new w _ c).alloc _, hz⟩
theorem do_end {w w2 : World} {B sv bT bB mB : Nat} {v v' : Value} {x : GS} {y : GS × GA} {gv rv dv : Value} {f : Nat → Value} {rb : Nat} (hrb : w.heap.size ≤ rb) (h0 : Sv w B sv bT bB mB v x) (hS : Sv w2 B sv bT bB mB v' y.1) (hv : ∀ k, v'.ownBlock = some k → v.ownBlock = some k ∨ w.heap.size ≤ k) (m : Mod (SvS sv bT bB mB v) w w2)
    (Z : Arr w2 rb 34 5 f) (hg : w2.ownsRow w.heap.size 71 5 gv y.2.g.length (gcells y.2.g)) (hr : w2.ownsRow w.heap.size 39 4 rv y.2.r.length (hcells y.2.r)) (hd : w2.ownsRow w.heap.size 3 1 dv y.2.z.length (intsOf y.2.z)) (hrv : ∀ k, rv.ownBlock = some k → k ∉ SvS sv bT bB mB v') :
    DoPost w B sv bT bB mB v y (.returned (.agg #[.int .i64 y.2.e, .int .i64 y.2.n, gv, rv, dv])) (put5 w2 rb (.int .i64 y.2.e) (.int .i64 y.2.n) gv rv dv) := by
  have m2 := put5_mod w2 rb (.int .i64 y.2.e) (.int .i64 y.2.n) gv rv dv
  have ha := h0.arr.lt
  have hb1 := h0.tb.lt
  have hb2 := h0.bk.arr.lt
  have hb3 := h0.by'.lt
  have hlo := h0.lo
  have hl1 := h0.l1
  have one : ∀ k, k < w.heap.size → k ∉ [rb] := fun k hk e => by have := List.mem_singleton.1 e; omega
  refine ⟨gv, rv, dv, v', rfl, ?_, ?_, ?_, ?_, hv, m.fresh m2 (fun q hq => .inr (by have := List.mem_singleton.1 hq; omega)), hrv⟩
  · exact own_mod hg m2 (fun q hq e => own_notArr hg Z (by decide) (by simp at e; subst e; simpa using hq))
  · exact own_mod hr m2 (fun q hq e => own_notArr hr Z (by decide) (by simp at e; subst e; simpa using hq))
  · exact own_mod hd m2 (fun q hq e => own_notArr hd Z (by decide) (by simp at e; subst e; simpa using hq))
  · exact hS.mod m2 (one _ ha) (one _ hb1) (one _ hb2) (one _ hb3) (fun q hq e => own_notArr hS.wt Z (by decide) (by simp at e; subst e; simpa using hq)) (one _ (by omega))
/-- A command that is refused. -/
theorem do_err {w w2 : World} {B sv bT bB mB : Nat} {v : Value} {x : GS} {y : GS × GA} {e : Int} {f : Nat → Value} {rb : Nat} (hrb : w.heap.size ≤ rb) (h0 : Sv w B sv bT bB mB v x) (hy : y = (x, .err e)) (m : Mod [] w w2) (Z : Arr w2 rb 34 5 f) :
    DoPost w B sv bT bB mB v y (.returned (.agg #[.int .i64 e, .int .i64 0, .slice none 0 0, .slice none 0 0, .slice none 0 0])) (put5 w2 rb (.int .i64 e) (.int .i64 0) (.slice none 0 0) (.slice none 0 0) (.slice none 0 0)) := by
  subst hy
  exact do_end (y := (x, .err e)) hrb h0 (h0.mod0 m) (fun k hk => .inl hk) m.nil Z (own_nil _ _ _ _) (own_nil _ _ _ _) (own_nil _ _ _ _) (fun k hk => by cases hk)
namespace Sv
variable {w w1 w2 : World} {B sv bT bB mB : Nat} {v : Value} {x : GS}
theorem setT (h : Sv w1 B sv bT bB mB v x) {t : Nat → Nat → Nat} (hT : Tb w2 bT t) (m : Mod [bT] w1 w2) : Sv w2 B sv bT bB mB v { x with t := t } := by
  obtain ⟨a1, a2, a3, a4, a5, a6, a7, a8, a9, a10⟩ := h.apart
  have := h.lo
  have := h.l2
  have := h.inv
  refine ⟨h.arr.mod m (by simpa using a1), hT, h.bk.mod m (by simpa using Ne.symm a3), own_mod h.wt m (fun k hk e => ?_), h.by'.mod m (by simpa using a5), whole_mod h.wh m (fun e => by have := List.mem_singleton.1 e; omega), ⟨h.inv.last, h.inv.wl, h.inv.len, h.inv.one, h.inv.by1⟩, h.lo, h.l1, h.l2, h.l3, h.l4⟩
  have := List.mem_singleton.1 e
  subst this
  exact a8 (by simpa using hk)
theorem setB (h : Sv w1 B sv bT bB mB v x) {u s : Nat → Int} {d : Nat → Bool} (hB : Bk w2 bB u s d) (m : Mod [bB] w1 w2) : Sv w2 B sv bT bB mB v { x with u := u, s := s, d := d } := by
  obtain ⟨a1, a2, a3, a4, a5, a6, a7, a8, a9, a10⟩ := h.apart
  have := h.lo
  have := h.l3
  refine ⟨h.arr.mod m (by simpa using a2), h.tb.mod m (by simpa using a3), hB, own_mod h.wt m (fun k hk e => ?_), h.by'.mod m (by simpa using a6), whole_mod h.wh m (fun e => by have := List.mem_singleton.1 e; omega), ⟨h.inv.last, h.inv.wl, h.inv.len, h.inv.one, h.inv.by1⟩, h.lo, h.l1, h.l2, h.l3, h.l4⟩
  have := List.mem_singleton.1 e
  subst this
  exact a9 (by simpa using hk)
theorem setQ (h : Sv w1 B sv bT bB mB v x) {l : List HoldT} {v' : Value} (hv : w2.ownsRow B 39 4 v' l.length (hcells l)) (m : Mod v.ownBlock.toList w1 w2) (hI : GInv { x with wl := l }) : Sv (w2.setCell ⟨sv, 2, none⟩ v') B sv bT bB mB v' { x with wl := l } := by
  obtain ⟨a1, a2, a3, a4, a5, a6, a7, a8, a9, a10⟩ := h.apart
  have hlo := h.lo
  have hl1 := h.l1
  have A2 := h.arr.mod m a7
  have m2 : Mod [sv] w2 (w2.setCell ⟨sv, 2, none⟩ v') := (Mod.refl _ _).setCell (.inl (by simp)) _
  have hw2 : 1 ∉ v.ownBlock.toList := fun e => by have := (own_lt' h.wt _ (by simpa using e)).1; omega
  refine ⟨(A2.set 2 v').congr fun i hi => ?_, (h.tb.mod m a8).mod m2 (by simpa using Ne.symm a1), (h.bk.mod m a9).mod m2 (by simpa using Ne.symm a2), own_mod hv m2 (fun k hk e => own_notArr hv A2 (by decide) (by have := List.mem_singleton.1 e; subst this; simpa using hk)), (h.by'.mod m a10).mod m2 (by simpa using a4), whole_mod (whole_mod h.wh m hw2) m2 (fun e => by have := List.mem_singleton.1 e; omega), hI, h.lo, h.l1, h.l2, h.l3, h.l4⟩
  match i, hi with
  | 0, _ | 1, _ | 2, _ | 3, _ | 4, _ => rfl
end Sv
/-- Behind serving. -/
theorem do_serve {w w2 w3 : World} {B sv bT bB mB : Nat} {v v2 : Value} {x x2 : GS} {zs : List Nat} {gv dv v' : Value} {f : Nat → Value} {rb : Nat} (hrb : w.heap.size ≤ rb) (h0 : Sv w B sv bT bB mB v x) (h2 : Sv w2 B sv bT bB mB v2 x2) (hm2 : Mod (SvS sv bT bB mB v) w w2)
    (hg : w3.ownsRow w2.heap.size 71 5 gv x2.srv.out.length (gcells x2.srv.out)) (h3 : Sv w3 B sv bT bB mB v' x2.served) (hv' : ∀ k, v'.ownBlock = some k → w2.heap.size ≤ k) (m3 : Mod [sv, bT] w2 w3)
    (Z : Arr w2 rb 34 5 f) (hd : w2.ownsRow w.heap.size 3 1 dv zs.length (intsOf zs)) :
    DoPost w B sv bT bB mB v (x2.serve zs) (.returned (.agg #[.int .i64 0, .int .i64 0, gv, .slice none 0 0, dv])) (put5 w3 rb (.int .i64 0) (.int .i64 0) gv (.slice none 0 0) dv) := by
  have hs := hm2.size
  have ha := h0.arr.lt
  have hb1 := h0.tb.lt
  refine do_end (y := x2.serve zs) hrb h0 h3 (fun k hk => .inr ?_) (hm2.trans (m3.mono fun q hq => ?_)) (Z.mod m3 (by simp; omega)) (own_base hg hs) (own_nil _ _ _ _) (own_mod hd m3 fun q hq e => ?_) (fun k hk => by cases hk)
  · exact Nat.le_trans hs (hv' k hk)
  · simp at hq
    rw [svS_of]
    rcases hq with e | e
    · exact .inl e
    · exact .inr (.inl e)
  · have := (own_lt' hd q hq).1
    simp at e
    omega
theorem ans_facts {w : World} {b : Nat} {e n : Int} {g r d : Value} (Z : Arr w b 34 5 (ansF e n g r d)) :
    w.cell? ⟨b, 0, none⟩ = some (.int .i64 e) ∧ w.cell? ⟨b, 1, none⟩ = some (.int .i64 n) ∧ w.cell? ⟨b, 2, none⟩ = some g ∧ w.cell? ⟨b, 3, none⟩ = some r ∧ w.cell? ⟨b, 4, none⟩ = some d ∧
    w.frozen? ⟨b, 0, none⟩ = false ∧ w.frozen? ⟨b, 1, none⟩ = false ∧ w.frozen? ⟨b, 2, none⟩ = false ∧ w.frozen? ⟨b, 3, none⟩ = false ∧ w.frozen? ⟨b, 4, none⟩ = false :=
  ⟨Z.cell 0 (by omega), Z.cell 1 (by omega), Z.cell 2 (by omega), Z.cell 3 (by omega), Z.cell 4 (by omega), Z.free 0, Z.free 1, Z.free 2, Z.free 3, Z.free 4⟩
theorem gclient_calls (w : World) (c : Int) : Calls Tryd.prog 113 #[.int .i64 c] w fun e w' => e = .returned (.bool (inC8 c)) ∧ w = w' := by
  by_cases h0 : 0 ≤ c
  · by_cases h8 : c < 8
    · have E := Lib.hid (show inC8 c = true by simp [inC8]; omega)
      go_enter Tryd.func113, Tryd.ntmps113
      go_wp2
      go_ret
      exact ⟨by rw [E.out]; rfl, rfl⟩
    · have E := Lib.hid (show inC8 c = false by simp [inC8]; omega)
      have h8' : decide (c < 8) = false := by simpa using h8
      go_enter Tryd.func113, Tryd.ntmps113
      go_wp2
      go_ret
      exact ⟨by rw [E.out]; rfl, rfl⟩
  · have E := Lib.hid (show inC8 c = false by simp [inC8]; omega)
    have h0' : decide (0 ≤ c) = false := by simpa using h0
    go_enter Tryd.func113, Tryd.ntmps113
    go_wp2
    go_ret
    exact ⟨by rw [E.out]; rfl, rfl⟩
set_option maxRecDepth 100000 in
set_option maxHeartbeats 4000000 in
theorem release_calls (w : World) (B sv bT bB mB : Nat) (v : Value) (x : GS) (c : CmdT) (hS : Sv w B sv bT bB mB v x) :
    Calls Tryd.prog 106 #[.pointer (some ⟨sv, 0, none⟩), .agg c.arr] w (DoPost w B sv bT bB mB v (x.release c)) := by
  obtain ⟨w1, hw1⟩ : ∃ w1, w1 = (w.alloc (.cells c.arr 37)).alloc (.cells zeroAns 34) := ⟨_, rfl⟩
  have m1 : Mod [] w w1 := by rw [hw1]; exact ((Mod.refl _ _).alloc _).alloc _
  obtain ⟨A1, Z1⟩ := two_new w c
  rw [← hw1] at A1 Z1
  have y1 := A1.cell 1 (by omega)
  have y5 := A1.cell 5 (by omega)
  have y6 := A1.cell 6 (by omega)
  simp only [CmdT.f, if_true, if_false, Nat.reduceEqDiff] at y1 y5 y6
  have hS1 := hS.mod0 m1
  have C1 := Lib.hid (gclient_calls w1 c.c)
  have C2 := Lib.hid (spCut_calls w1.drew bT x.t c.c c.a c.b (hS1.mod0 (Mod.refl [] w1).drew).tb)
  have KS := Lib.hid (And.intro hS1.c0 (And.intro y1 (And.intro y5 y6)))
  have n1 : sv ∉ [bT] := by simpa using hS.apart.1
  have n2 : w.heap.size ∉ [bT] := fun e => by have := List.mem_singleton.1 e; have := hS.tb.lt; omega
  have KSM := Lib.hid (fun w' (m : Mod [bT] w1.drew w') => And.intro (m.cell' KS.out.1 n1) (And.intro (m.cell' KS.out.2.1 n2) (And.intro (m.cell' KS.out.2.2.1 n2) (m.cell' KS.out.2.2.2 n2))))
  have HW1 := Lib.hid hw1
  have M1 := Lib.hid m1
  have HZ1 := Lib.hid Z1
  have HS := Lib.hid hS
  have HS1 := Lib.hid hS1
  rw [hw1] at y1
  clear hw1 m1 A1 Z1 hS hS1 y5 y6 n1 n2
  unfold zeroAns at HW1 y1
  unfold CmdT.arr at HW1 y1 ⊢
  cases hc : inC8 c.c with
  | false =>
    rw [hc] at C1
    have E := Lib.hid (show x.release c = (x, .err 1) by unfold GS.release; rw [if_pos hc])
    clear hc
    go_enter Tryd.func106, Tryd.ntmps106
    go_wp2_with fail
    rw [← HW1.out] at *
    refine C1.out.mono ?_
    rintro e w2 ⟨rfl, rfl⟩
    have zf := HZ1.out.free
    have zf0 := zf 0
    have zf1 := zf 1
    have zf2 := zf 2
    have zf3 := zf 3
    have zf4 := zf 4
    have Z0 := HZ1.out.cell 0 (by omega)
    have Z1 := HZ1.out.cell 1 (by omega)
    have Z2 := HZ1.out.cell 2 (by omega)
    have Z3 := HZ1.out.cell 3 (by omega)
    have Z4 := HZ1.out.cell 4 (by omega)
    simp only [ansF, if_true, if_false, Nat.reduceEqDiff] at Z0 Z1 Z2 Z3 Z4
    clear zf
    go_wp2
    exact bodyPost_ret (ans_res rfl rfl (put5_arr HZ1.out _ _ _ _ _)) rfl (do_err (by omega) HS.out E.out M1.out HZ1.out)
  | true =>
    rw [hc] at C1
    have E := Lib.hid (show x.release c = GS.serve { x with t := setT x.t c.c c.a c.b (fun _ => 0) } [] by unfold GS.release; rw [if_neg (by simp [hc])])
    clear hc
    go_enter Tryd.func106, Tryd.ntmps106
    go_wp2_with fail
    rw [← HW1.out] at *
    refine C1.out.mono ?_
    rintro e w2 ⟨rfl, rfl⟩
    go_wp2
    go_region_held3 (fun w' => w'.cell? ⟨sv, 0, none⟩ = some (.pointer (some ⟨bT, 0, none⟩)) ∧ w'.cell? ⟨w.heap.size, 1, none⟩ = some (.int .i64 c.c) ∧ w'.cell? ⟨w.heap.size, 5, none⟩ = some (.int .i64 c.a) ∧ w'.cell? ⟨w.heap.size, 6, none⟩ = some (.int .i64 c.b))
      (first | exact KS.out | exact KSM.out _ (by assumption))
      (first
        | (go_at_call 119; (with_reducible refine C2.out.mono ?_); rintro e w2 ⟨v2, rfl, o2, t2, m2⟩))
    have S2 := Lib.hid (Sv.setT (HS1.out.mod0 (Mod.refl [] w1).drew) t2 m2)
    have M2 := Lib.hid (M1.out.nil.trans (Mod.of_drew m2))
    have hbt := HS.out.tb.lt
    have Z2 := Lib.hid (HZ1.out.drew.mod m2 (by simp; omega))
    have C3 := Lib.hid (serve_calls w2 B sv bT bB mB v _ (.slice none 0 0) S2.out ⟨_, _, _, rfl⟩)
    clear t2 m2 o2
    go_wp2_with fail
    refine C3.out.mono ?_
    rintro e w3 ⟨gv, v', rfl, o3, s3, n3, m3⟩
    obtain ⟨p3, c3, rfl⟩ := own_len o3
    have hsv := HS.out.arr.lt
    have Z3 := Lib.hid (Z2.out.mod m3 (by simp; omega))
    have FIN := Lib.hid (do_serve (zs := []) (rb := w.heap.size + 1) (by omega) HS.out S2.out (M2.out.mono (by simp [SvS])) o3 s3 n3 m3 Z2.out (own_nil _ _ _ _))
    have zf := Z3.out.free
    have zf0 := zf 0
    have zf1 := zf 1
    have zf2 := zf 2
    have zf3 := zf 3
    have zf4 := zf 4
    have Y0 := Z3.out.cell 0 (by omega)
    have Y1 := Z3.out.cell 1 (by omega)
    have Y2 := Z3.out.cell 2 (by omega)
    have Y3 := Z3.out.cell 3 (by omega)
    have Y4 := Z3.out.cell 4 (by omega)
    simp only [ansF, if_true, if_false, Nat.reduceEqDiff] at Y0 Y1 Y2 Y3 Y4
    clear zf o3 s3 n3 m3
    go_wp2
    exact bodyPost_ret (ans_res rfl rfl (put5_arr Z3.out _ _ _ _ _)) rfl (by rw [E.out]; exact FIN.out)
set_option maxRecDepth 100000 in
set_option maxHeartbeats 4000000 in
theorem weaken_calls (w : World) (B sv bT bB mB : Nat) (v : Value) (x : GS) (c : CmdT) (hS : Sv w B sv bT bB mB v x) :
    Calls Tryd.prog 107 #[.pointer (some ⟨sv, 0, none⟩), .agg c.arr] w (DoPost w B sv bT bB mB v (x.weaken c)) := by
  obtain ⟨w1, hw1⟩ : ∃ w1, w1 = (w.alloc (.cells c.arr 37)).alloc (.cells zeroAns 34) := ⟨_, rfl⟩
  have m1 : Mod [] w w1 := by rw [hw1]; exact ((Mod.refl _ _).alloc _).alloc _
  obtain ⟨A1, Z1⟩ := two_new w c
  rw [← hw1] at A1 Z1
  have y1 := A1.cell 1 (by omega)
  have y5 := A1.cell 5 (by omega)
  have y6 := A1.cell 6 (by omega)
  simp only [CmdT.f, if_true, if_false, Nat.reduceEqDiff] at y1 y5 y6
  have hS1 := hS.mod0 m1
  have C1 := Lib.hid (gclient_calls w1 c.c)
  have C2 := Lib.hid (spWeaken_calls w1.drew bT x.t c.c c.a c.b (hS1.mod0 (Mod.refl [] w1).drew).tb)
  have KS := Lib.hid (And.intro hS1.c0 (And.intro y1 (And.intro y5 y6)))
  have n1 : sv ∉ [bT] := by simpa using hS.apart.1
  have n2 : w.heap.size ∉ [bT] := fun e => by have := List.mem_singleton.1 e; have := hS.tb.lt; omega
  have KSM := Lib.hid (fun w' (m : Mod [bT] w1.drew w') => And.intro (m.cell' KS.out.1 n1) (And.intro (m.cell' KS.out.2.1 n2) (And.intro (m.cell' KS.out.2.2.1 n2) (m.cell' KS.out.2.2.2 n2))))
  have HW1 := Lib.hid hw1
  have M1 := Lib.hid m1
  have HZ1 := Lib.hid Z1
  have HS := Lib.hid hS
  have HS1 := Lib.hid hS1
  rw [hw1] at y1
  clear hw1 m1 A1 Z1 hS hS1 y5 y6 n1 n2
  unfold zeroAns at HW1 y1
  unfold CmdT.arr at HW1 y1 ⊢
  cases hc : inC8 c.c with
  | false =>
    rw [hc] at C1
    have E := Lib.hid (show x.weaken c = (x, .err 1) by unfold GS.weaken; rw [if_pos hc])
    clear hc
    go_enter Tryd.func107, Tryd.ntmps107
    go_wp2_with fail
    rw [← HW1.out] at *
    refine C1.out.mono ?_
    rintro e w2 ⟨rfl, rfl⟩
    have zf := HZ1.out.free
    have zf0 := zf 0
    have zf1 := zf 1
    have zf2 := zf 2
    have zf3 := zf 3
    have zf4 := zf 4
    have Z0 := HZ1.out.cell 0 (by omega)
    have Z1 := HZ1.out.cell 1 (by omega)
    have Z2 := HZ1.out.cell 2 (by omega)
    have Z3 := HZ1.out.cell 3 (by omega)
    have Z4 := HZ1.out.cell 4 (by omega)
    simp only [ansF, if_true, if_false, Nat.reduceEqDiff] at Z0 Z1 Z2 Z3 Z4
    clear zf
    go_wp2
    exact bodyPost_ret (ans_res rfl rfl (put5_arr HZ1.out _ _ _ _ _)) rfl (do_err (by omega) HS.out E.out M1.out HZ1.out)
  | true =>
    rw [hc] at C1
    have E := Lib.hid (show x.weaken c = GS.serve { x with t := setT x.t c.c c.a c.b (fun m => min m 1) } [] by unfold GS.weaken; rw [if_neg (by simp [hc])])
    clear hc
    go_enter Tryd.func107, Tryd.ntmps107
    go_wp2_with fail
    rw [← HW1.out] at *
    refine C1.out.mono ?_
    rintro e w2 ⟨rfl, rfl⟩
    go_wp2
    go_region_held3 (fun w' => w'.cell? ⟨sv, 0, none⟩ = some (.pointer (some ⟨bT, 0, none⟩)) ∧ w'.cell? ⟨w.heap.size, 1, none⟩ = some (.int .i64 c.c) ∧ w'.cell? ⟨w.heap.size, 5, none⟩ = some (.int .i64 c.a) ∧ w'.cell? ⟨w.heap.size, 6, none⟩ = some (.int .i64 c.b))
      (first | exact KS.out | exact KSM.out _ (by assumption))
      (first
        | (go_at_call 121; (with_reducible refine C2.out.mono ?_); rintro e w2 ⟨v2, rfl, o2, t2, m2⟩))
    have S2 := Lib.hid (Sv.setT (HS1.out.mod0 (Mod.refl [] w1).drew) t2 m2)
    have M2 := Lib.hid (M1.out.nil.trans (Mod.of_drew m2))
    have hbt := HS.out.tb.lt
    have Z2 := Lib.hid (HZ1.out.drew.mod m2 (by simp; omega))
    have C3 := Lib.hid (serve_calls w2 B sv bT bB mB v _ (.slice none 0 0) S2.out ⟨_, _, _, rfl⟩)
    clear t2 m2 o2
    go_wp2_with fail
    refine C3.out.mono ?_
    rintro e w3 ⟨gv, v', rfl, o3, s3, n3, m3⟩
    obtain ⟨p3, c3, rfl⟩ := own_len o3
    have hsv := HS.out.arr.lt
    have Z3 := Lib.hid (Z2.out.mod m3 (by simp; omega))
    have FIN := Lib.hid (do_serve (zs := []) (rb := w.heap.size + 1) (by omega) HS.out S2.out (M2.out.mono (by simp [SvS])) o3 s3 n3 m3 Z2.out (own_nil _ _ _ _))
    have zf := Z3.out.free
    have zf0 := zf 0
    have zf1 := zf 1
    have zf2 := zf 2
    have zf3 := zf 3
    have zf4 := zf 4
    have Y0 := Z3.out.cell 0 (by omega)
    have Y1 := Z3.out.cell 1 (by omega)
    have Y2 := Z3.out.cell 2 (by omega)
    have Y3 := Z3.out.cell 3 (by omega)
    have Y4 := Z3.out.cell 4 (by omega)
    simp only [ansF, if_true, if_false, Nat.reduceEqDiff] at Y0 Y1 Y2 Y3 Y4
    clear zf o3 s3 n3 m3
    go_wp2
    exact bodyPost_ret (ans_res rfl rfl (put5_arr Z3.out _ _ _ _ _)) rfl (by rw [E.out]; exact FIN.out)

set_option maxRecDepth 100000 in
set_option maxHeartbeats 4000000 in
theorem renew_calls (w : World) (B sv bT bB mB : Nat) (v : Value) (x : GS) (c : CmdT) (hS : Sv w B sv bT bB mB v x) :
    Calls Tryd.prog 108 #[.pointer (some ⟨sv, 0, none⟩), .agg c.arr] w (DoPost w B sv bT bB mB v (x.renew c)) := by
  obtain ⟨w1, hw1⟩ : ∃ w1, w1 = (w.alloc (.cells c.arr 37)).alloc (.cells zeroAns 34) := ⟨_, rfl⟩
  have m1 : Mod [] w w1 := by rw [hw1]; exact ((Mod.refl _ _).alloc _).alloc _
  obtain ⟨A1, Z1⟩ := two_new w c
  rw [← hw1] at A1 Z1
  have y1 := A1.cell 1 (by omega)
  have y2 := A1.cell 2 (by omega)
  have y3 := A1.cell 3 (by omega)
  have y4 := A1.cell 4 (by omega)
  simp only [CmdT.f, if_true, if_false, Nat.reduceEqDiff] at y1 y2 y3 y4
  have hS1 := hS.mod0 m1
  have C2 := Lib.hid (bkRenew_calls w1.drew bB x.u x.s x.d c.c c.q c.n c.l (hS1.mod0 (Mod.refl [] w1).drew).bk)
  have KS := Lib.hid (And.intro hS1.c1 (And.intro y1 (And.intro y2 (And.intro y3 y4))))
  have n1 : sv ∉ [bB] := by simpa using hS.apart.2.1
  have n2 : w.heap.size ∉ [bB] := fun e => by have := List.mem_singleton.1 e; have := hS.bk.arr.lt; omega
  have KSM := Lib.hid (fun w' (m : Mod [bB] w1.drew w') => And.intro (m.cell' KS.out.1 n1) (And.intro (m.cell' KS.out.2.1 n2) (And.intro (m.cell' KS.out.2.2.1 n2) (And.intro (m.cell' KS.out.2.2.2.1 n2) (m.cell' KS.out.2.2.2.2 n2)))))
  have HW1 := Lib.hid hw1
  have M1 := Lib.hid m1
  have HZ1 := Lib.hid Z1
  have HS := Lib.hid hS
  have HS1 := Lib.hid hS1
  have E := Lib.hid (show x.renew c = ({ x with u := renewU x.u x.s x.d c.c c.q c.n c.l, s := renewS x.s x.d c.c c.q c.n c.l }, ⟨renewE x.s x.d c.c c.q c.n c.l, renewV x.u x.s x.d c.c c.q c.n c.l, [], [], []⟩) from rfl)
  clear hw1 m1 A1 Z1 hS hS1 y1 y2 y3 y4 n1 n2
  unfold zeroAns at HW1
  unfold CmdT.arr at HW1 ⊢
  unfold RenewPost at C2
  go_enter Tryd.func108, Tryd.ntmps108
  go_wp2_with fail
  rw [← HW1.out] at *
  go_region_held3 (fun w' => w'.cell? ⟨sv, 1, none⟩ = some (.pointer (some ⟨bB, 0, none⟩)) ∧ w'.cell? ⟨w.heap.size, 1, none⟩ = some (.int .i64 c.c) ∧ w'.cell? ⟨w.heap.size, 2, none⟩ = some (.int .i64 c.q) ∧ w'.cell? ⟨w.heap.size, 3, none⟩ = some (.int .i64 c.n) ∧ w'.cell? ⟨w.heap.size, 4, none⟩ = some (.int .i64 c.l))
    (first | exact KS.out | exact KSM.out _ (by assumption))
    (first
      | (go_at_call 122; (with_reducible refine C2.out.mono ?_); rintro e w2 ⟨rfl, b2, m2⟩))
  have S2 := Lib.hid (Sv.setB (HS1.out.mod0 (Mod.refl [] w1).drew) b2 m2)
  have M2 := Lib.hid (M1.out.nil.trans (Mod.of_drew m2))
  have hbt := HS.out.bk.arr.lt
  have Z2 := Lib.hid (HZ1.out.drew.mod m2 (by simp; omega))
  obtain ⟨q0, q1, q2, q3, q4, q5, q6, q7, q8, q9⟩ := ans_facts Z2.out
  clear b2 m2
  go_wp2
  exact bodyPost_ret (ans_res rfl rfl (put5_arr Z2.out _ _ _ _ _)) rfl (by rw [E.out]; exact do_end (y := (_, ⟨_, _, _, _, _⟩)) (by omega) HS.out S2.out (fun k hk => .inl hk) (M2.out.mono (by simp [SvS])) Z2.out (own_nil _ _ _ _) (own_nil _ _ _ _) (own_nil _ _ _ _) (fun k hk => by cases hk))
end Go.Proofs.YtijjbkkcienfgaaDoor
