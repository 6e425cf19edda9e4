/- Serving what waits. No condition beyond what stands in each. -/
import Derived.Test.YtijjbkkcienfgaaDoorGr12
namespace Go.Proofs.YtijjbkkcienfgaaDoor
open Go.RowKit
set_option linter.unusedVariables false
set_option linter.unusedSimpArgs false
attribute [local go_sem ↓] Go.wp_at_zero Go.wp_at_succ

def gcell (g : Nat × HoldT) : List Value := [.int .i64 (g.1 : Nat), .int .i64 g.2.1, .int .i64 g.2.2.1, .int .i64 g.2.2.2.1, .int .i64 g.2.2.2.2]
def gcells (l : List (Nat × HoldT)) : List Value := l.flatMap gcell
theorem gcells_snoc (l : List (Nat × HoldT)) (h : Nat × HoldT) : gcells (l ++ [h]) = gcells l ++ gcell h := by simp [gcells]
theorem gcells_len (l : List (Nat × HoldT)) : (gcells l).length = l.length * 5 := by
  induction l with
  | nil => rfl
  | cons a l ih =>
    show (gcell a ++ gcells l).length = _
    rw [List.length_append, ih]
    show 5 + _ = _
    simp
    omega
theorem info_grant : (Tryd.prog.info? 71).map (fun i => (i.zero, i.size, i.bytes)) = some (some (.agg #[.int .i64 0, .int .i64 0, .int .i64 0, .int .i64 0, .int .i64 0]), 5, 40) := by kernel_rfl
/-- An answer in memory. -/
def ansF (e n : Int) (gv rv dv : Value) (i : Nat) : Value := if i = 0 then .int .i64 e else if i = 1 then .int .i64 n else if i = 2 then gv else if i = 3 then rv else dv
theorem ans_new (w : World) (e n : Int) (gv rv dv : Value) : Arr (w.alloc (.cells #[.int .i64 e, .int .i64 n, gv, rv, dv] 34)) w.heap.size 34 5 (ansF e n gv rv dv) := Arr.new' w _ _ 5 _ rfl (fun i hi => by
  match i, hi with
  | 0, _ | 1, _ | 2, _ | 3, _ | 4, _ => rfl)
/-- An answer laid into a block. -/
abbrev put5 (w : World) (b : Nat) (a0 a1 a2 a3 a4 : Value) : World := ((((w.setCell ⟨b, 0, none⟩ a0).setCell ⟨b, 1, none⟩ a1).setCell ⟨b, 2, none⟩ a2).setCell ⟨b, 3, none⟩ a3).setCell ⟨b, 4, none⟩ a4
theorem put5_arr {w : World} {b T : Nat} {f : Nat → Value} (h : Arr w b T 5 f) (e n : Int) (g r d : Value) : Arr (put5 w b (.int .i64 e) (.int .i64 n) g r d) b T 5 (ansF e n g r d) :=
  (((((h.set 0 _).set 1 _).set 2 _).set 3 _).set 4 _).congr fun i hi => by
    match i, hi with
    | 0, _ | 1, _ | 2, _ | 3, _ | 4, _ => rfl
theorem put5_mod (w : World) (b : Nat) (a0 a1 a2 a3 a4 : Value) : Mod [b] w (put5 w b a0 a1 a2 a3 a4) := by
  repeat (first | (with_reducible exact Mod.refl _ _) | (with_reducible refine Mod.setCell ?_ (.inl (by simp)) _))
theorem results_cell1 {fn : Func} {p : Tmp} {ty : TypeId} (h : fn.results = #[.cell p ty]) (tmps : Array Value) (P : Program) (w : World) :
    (results fn tmps).run P w = ((asAddr (tmps.getD p undef)).run P w).andThen fun a w₁ => (loadVar ty a).run P w₁ := by
  simp only [results, h]
  simp [Sem.run_bind, Result.andThen]
theorem ans_load {w : World} {b : Nat} {e n : Int} {g r d : Value} (A : Arr w b 34 5 (ansF e n g r d)) : (loadVar 34 ⟨b, 0, none⟩).run Tryd.prog w = .ok (.agg #[.int .i64 e, .int .i64 n, g, r, d]) w :=
  run_loadVar_mid w b 0 _ [.int .i64 e, .int .i64 n, g, r, d] _ (fun j v hv => by
    rw [Nat.zero_add]
    match j with
    | 0 => simp at hv; subst hv; exact A.cell 0 (by omega)
    | 1 => simp at hv; subst hv; exact A.cell 1 (by omega)
    | 2 => simp at hv; subst hv; exact A.cell 2 (by omega)
    | 3 => simp at hv; subst hv; exact A.cell 3 (by omega)
    | 4 => simp at hv; subst hv; exact A.cell 4 (by omega)
    | j + 5 => simp at hv) Tryd.underlying34 rfl (by kernel_rfl)
theorem ans_res {fn : Func} {p : Tmp} (h : fn.results = #[.cell p 34]) {tmps : Array Value} {w : World} {b : Nat} (hb : tmps.getD p undef = .pointer (some ⟨b, 0, none⟩)) {e n : Int} {g r d : Value} (A : Arr w b 34 5 (ansF e n g r d)) :
    (results fn tmps).run Tryd.prog w = .ok (.agg #[.int .i64 e, .int .i64 n, g, r, d]) w := by
  have hp : (asAddr (.pointer (some ⟨b, 0, none⟩))).run Tryd.prog w = .ok ⟨b, 0, none⟩ w := rfl
  rw [results_cell1 h, hb, hp]
  simp only [Result.andThen]
  exact ans_load A
/-- The service, as far as it is served. -/
def GS.at (x : GS) (s : SrvT) : GS := { x with t := s.t, last := s.last }
def GS.upto (x : GS) (k : Nat) : SrvT := (x.wl.take k).foldl srvStep x.srv0
theorem GS.upto_zero (x : GS) : x.upto 0 = x.srv0 := rfl
theorem GS.upto_all (x : GS) : x.upto x.wl.length = x.srv := by unfold GS.upto GS.srv; rw [List.take_length]
theorem GS.upto_succ (x : GS) {k : Nat} {h : HoldT} (hk : x.wl[k]? = some h) : x.upto (k + 1) = srvStep (x.upto k) h := by
  unfold GS.upto
  have hlt := (List.getElem?_eq_some_iff.1 hk).1
  rw [List.take_succ_eq_append_getElem hlt, List.foldl_append, (List.getElem?_eq_some_iff.1 hk).2]
  rfl
theorem GS.upto_inv (x : GS) (hx : x.last ≤ maxS) (k : Nat) : SrvI x (x.wl.take k) (x.upto k) := by
  have := srvI_all hx (x.wl.take k) [] x.srv0 ⟨rfl, hx, List.Sublist.refl _, rfl⟩
  simpa [GS.upto] using this
structure SrvW (w wr : World) (B sv bT bB mB ab : Nat) (v : Value) (x : GS) (dv : Value) (k : Nat) (lv gv : Value) : Prop where
  s : Sv wr B sv bT bB mB v (x.at (x.upto k))
  l : wr.ownsRow w.heap.size 39 4 lv (x.upto k).left.length (hcells (x.upto k).left)
  g : wr.ownsRow w.heap.size 71 5 gv (x.upto k).out.length (gcells (x.upto k).out)
  a : Arr wr ab 34 5 (ansF 0 0 gv (.slice none 0 0) dv)
  m : Mod [sv, bT] w wr
  ab' : w.heap.size ≤ ab
  z : Arr wr (ab + 1) 34 5 (ansF 0 0 (.slice none 0 0) (.slice none 0 0) (.slice none 0 0))
def SrvPost (w : World) (B sv bT bB mB : Nat) (x : GS) (dv : Value) (e : Ending) (w' : World) : Prop :=
  ∃ gv v', e = .returned (.agg #[.int .i64 0, .int .i64 0, gv, .slice none 0 0, dv]) ∧ w'.ownsRow w.heap.size 71 5 gv x.srv.out.length (gcells x.srv.out) ∧ Sv w' B sv bT bB mB v' x.served ∧ (∀ k, v'.ownBlock = some k → w.heap.size ≤ k) ∧ Mod [sv, bT] w w'
theorem srvInv {x : GS} (h : GInv x) (s : SrvT) (hs : s.last ≤ maxS) : GInv (x.at s) := ⟨hs, h.wl, h.len, h.one, h.by1⟩
/-- The three ways of a round. -/
theorem step_full {s : SrvT} {h : HoldT} (e : maxS ≤ s.last) : srvStep s h = ⟨s.t, s.last, s.left ++ [h], s.out⟩ := by
  unfold srvStep srvOk
  rw [if_neg (by simp; intro a; omega)]
theorem step_clash {s : SrvT} {h : HoldT} (e : freeT s.t h s.left = false) : srvStep s h = ⟨s.t, s.last, s.left ++ [h], s.out⟩ := by
  unfold srvStep srvOk
  rw [if_neg (by simp [e])]
theorem step_err {s : SrvT} {h : HoldT} (e : putEH s.t h ≠ 0) : srvStep s h = ⟨s.t, s.last, s.left ++ [h], s.out⟩ := by
  unfold srvStep srvOk
  rw [if_neg (by simp [e])]
theorem step_ok {s : SrvT} {h : HoldT} (e0 : s.last < maxS) (e1 : freeT s.t h s.left = true) (e2 : putEH s.t h = 0) : srvStep s h = ⟨putTH s.t h, s.last + 1, s.left, s.out ++ [(s.last + 1, h)]⟩ := by
  unfold srvStep srvOk
  rw [if_pos (by simp [e0, e1, e2])]
theorem srv_start {w : World} {B sv bT bB mB : Nat} {v : Value} {x : GS} (hS : Sv w B sv bT bB mB v x) (dv : Value) :
    SrvW w ((w.alloc (.cells #[.int .i64 0, .int .i64 0, .slice none 0 0, .slice none 0 0, dv] 34)).alloc (.cells #[.int .i64 0, .int .i64 0, .slice none 0 0, .slice none 0 0, .slice none 0 0] 34)) B sv bT bB mB w.heap.size v x dv 0 (.slice none 0 0) (.slice none 0 0) := by
  have m : Mod [] w ((w.alloc (.cells #[.int .i64 0, .int .i64 0, .slice none 0 0, .slice none 0 0, dv] 34)).alloc (.cells #[.int .i64 0, .int .i64 0, .slice none 0 0, .slice none 0 0, .slice none 0 0] 34)) := ((Mod.refl _ _).alloc _).alloc _
  have hz := ans_new (w.alloc (.cells #[.int .i64 0, .int .i64 0, .slice none 0 0, .slice none 0 0, dv] 34)) 0 0 (.slice none 0 0) (.slice none 0 0) (.slice none 0 0)
  have e : (w.alloc (.cells #[.int .i64 0, .int .i64 0, .slice none 0 0, .slice none 0 0, dv] 34)).heap.size = w.heap.size + 1 := by simp
  rw [e] at hz
  exact ⟨hS.mod0 m, own_nil _ _ _ _, own_nil _ _ _ _, (ans_new w 0 0 _ _ dv).alloc _, m.nil, Nat.le_refl _, hz⟩
theorem own_apart {w : World} {b1 b2 e1 e2 s1 s2 n1 n2 : Nat} {v1 v2 : Value} {xs1 xs2 : List Value} (h1 : w.ownsRow b1 e1 s1 v1 n1 xs1) (h2 : w.ownsRow b2 e2 s2 v2 n2 xs2) (ne : e1 ≠ e2) : ∀ k, v2.ownBlock = some k → k ∉ v1.ownBlock.toList := by
  intro k hk hm
  obtain ⟨_, a | ⟨g, cap, cur, rfl, hg, hh, _⟩⟩ := h1
  · rw [a.1] at hm; simp [Value.ownBlock] at hm
  · obtain ⟨_, a' | ⟨g', cap', cur', rfl, hg', hh', _⟩⟩ := h2
    · rw [a'.1] at hk; simp [Value.ownBlock] at hk
    · simp [Value.ownBlock] at hm hk
      subst hk
      subst hm
      rw [hh] at hh'
      injection hh' with hh'
      injection hh' with _ hh'
      exact ne hh'
theorem own_far {w : World} {base e sz n : Nat} {v : Value} {xs : List Value} (h : w.ownsRow base e sz v n xs) : ∀ s, s ∈ v.ownBlock.toList → base ≤ s := fun s hs => (own_lt' h s (by simpa using hs)).1
/-- What lies behind the service's own blocks may change. -/
theorem Sv.far {w0 w1 w2 : World} {B sv bT bB mB : Nat} {v : Value} {x0 x1 : GS} {S : List Nat} (h0 : Sv w0 B sv bT bB mB v x0) (h1 : Sv w1 B sv bT bB mB v x1) (m : Mod S w1 w2) (hS : ∀ s, s ∈ S → w0.heap.size ≤ s) : Sv w2 B sv bT bB mB v x1 := by
  have a1 := h0.arr.lt
  have a2 := h0.tb.lt
  have a3 := h0.bk.arr.lt
  have a4 := h0.by'.lt
  have a5 := h0.lo
  have a6 := h0.l1
  refine h1.mod m (fun e => ?_) (fun e => ?_) (fun e => ?_) (fun e => ?_) (fun k hk e => ?_) (fun e => ?_)
  · have := hS _ e; omega
  · have := hS _ e; omega
  · have := hS _ e; omega
  · have := hS _ e; omega
  · have := hS _ e; have := (own_lt' h0.wt k hk).2; omega
  · have := hS _ e; omega
theorem hnews_at (w : World) (h : HoldT) : ∀ (j : Nat) u, (hcell h)[j]? = some u → (w.alloc (.cells #[.int .i64 h.1, .int .i64 h.2.1, .int .i64 h.2.2.1, .int .i64 h.2.2.2] 39)).cell? ⟨w.heap.size, j, none⟩ = some u := by
  intro j u hj
  match j with
  | 0 | 1 | 2 | 3 => simp [hcell] at hj; subst hj; simp
  | j + 4 => simp [hcell] at hj
theorem hnews_at2 (w : World) (o : Obj) (h : HoldT) : ∀ (j : Nat) u, (hcell h)[j]? = some u → ((w.alloc o).alloc (.cells #[.int .i64 h.1, .int .i64 h.2.1, .int .i64 h.2.2.1, .int .i64 h.2.2.2] 39)).cell? ⟨w.heap.size + 1, j, none⟩ = some u := by
  intro j u hj
  have := hnews_at (w.alloc o) h j u hj
  have e : (w.alloc o).heap.size = w.heap.size + 1 := by simp
  rw [e] at this
  exact this
theorem gnews_at (w : World) (h : Nat × HoldT) : ∀ (j : Nat) u, (gcell h)[j]? = some u → (w.alloc (.cells #[.int .i64 (h.1 : Nat), .int .i64 h.2.1, .int .i64 h.2.2.1, .int .i64 h.2.2.2.1, .int .i64 h.2.2.2.2] 71)).cell? ⟨w.heap.size, j, none⟩ = some u := by
  intro j u hj
  match j with
  | 0 | 1 | 2 | 3 | 4 => simp [gcell] at hj; subst hj; simp
  | j + 5 => simp [gcell] at hj
theorem SrvW.toLeft {w wr w2 w3 : World} {B sv bT bB mB ab : Nat} {v : Value} {x : GS} {dv : Value} {k : Nat} {lv gv lv' : Value} {h : HoldT} (hI : SrvW w wr B sv bT bB mB ab v x dv k lv gv) (h0 : Sv w B sv bT bB mB v x) (hh : x.wl[k]? = some h)
    (hst : srvStep (x.upto k) h = ⟨(x.upto k).t, (x.upto k).last, (x.upto k).left ++ [h], (x.upto k).out⟩) (hS2 : Sv w2 B sv bT bB mB v (x.at (x.upto k))) (m2 : Mod [sv, bT] wr w2)
    (ho : w3.ownsRow w.heap.size 39 4 lv' ((x.upto k).left.length + 1) (hcells (x.upto k).left ++ hcell h)) (m3 : Mod lv.ownBlock.toList w2 w3) : SrvW w w3 B sv bT bB mB ab v x dv (k + 1) lv' gv := by
  have e : x.upto (k + 1) = ⟨(x.upto k).t, (x.upto k).last, (x.upto k).left ++ [h], (x.upto k).out⟩ := (x.upto_succ hh).trans hst
  have far := own_far hI.l
  have hsv := h0.arr.lt
  have hbT := h0.tb.lt
  have hab := hI.ab'
  have hG2 := own_mod hI.g m2 (fun q hq e => by have := (own_lt' hI.g q hq).1; simp at e; omega)
  have hL2 := own_mod hI.l m2 (fun q hq e => by have := (own_lt' hI.l q hq).1; simp at e; omega)
  have hA2 := hI.a.mod m2 (by simp; omega)
  refine ⟨?_, ?_, ?_, ?_, (hI.m.trans m2).fresh m3 (fun q hq => .inr (far q hq)), hab, (hI.z.mod m2 (by simp; omega)).mod m3 (own_notArr hL2 (hI.z.mod m2 (by simp; omega)) (by decide))⟩
  · rw [e]
    exact h0.far hS2 m3 far
  · rw [e]
    show w3.ownsRow _ _ _ _ ((x.upto k).left ++ [h]).length (hcells ((x.upto k).left ++ [h]))
    rw [hcells_snoc, List.length_append]
    exact ho
  · rw [e]
    exact own_mod hG2 m3 (own_apart hL2 hG2 (by decide))
  · exact hA2.mod m3 (own_notArr hL2 hA2 (by decide))
theorem SrvW.toOut {w wr w2 w3 : World} {B sv bT bB mB ab : Nat} {v : Value} {x : GS} {dv : Value} {k : Nat} {lv gv gv' : Value} {h : HoldT} {T' : Nat → Nat → Nat} (hI : SrvW w wr B sv bT bB mB ab v x dv k lv gv) (h0 : Sv w B sv bT bB mB v x) (hh : x.wl[k]? = some h)
    (hst : srvStep (x.upto k) h = ⟨T', (x.upto k).last + 1, (x.upto k).left, (x.upto k).out ++ [((x.upto k).last + 1, h)]⟩) (hS2 : Sv w2 B sv bT bB mB v (x.at ⟨T', (x.upto k).last + 1, (x.upto k).left, (x.upto k).out ++ [((x.upto k).last + 1, h)]⟩)) (m2 : Mod [sv, bT] wr w2)
    (ho : w3.ownsRow w.heap.size 71 5 gv' ((x.upto k).out.length + 1) (gcells (x.upto k).out ++ gcell ((x.upto k).last + 1, h))) (m3 : Mod gv.ownBlock.toList w2 w3) : SrvW w (w3.setCell ⟨ab, 2, none⟩ gv') B sv bT bB mB ab v x dv (k + 1) lv gv' := by
  have e : x.upto (k + 1) = ⟨T', (x.upto k).last + 1, (x.upto k).left, (x.upto k).out ++ [((x.upto k).last + 1, h)]⟩ := (x.upto_succ hh).trans hst
  have far := own_far hI.g
  have hsv := h0.arr.lt
  have hbT := h0.tb.lt
  have hab := hI.ab'
  have hG2 := own_mod hI.g m2 (fun q hq e => by have := (own_lt' hI.g q hq).1; simp at e; omega)
  have hL2 := own_mod hI.l m2 (fun q hq e => by have := (own_lt' hI.l q hq).1; simp at e; omega)
  have hA2 := hI.a.mod m2 (by simp; omega)
  have hA3 := hA2.mod m3 (own_notArr hG2 hA2 (by decide))
  have hL3 := own_mod hL2 m3 (own_apart hG2 hL2 (by decide))
  have m4 : Mod [ab] w3 (w3.setCell ⟨ab, 2, none⟩ gv') := (Mod.refl _ _).setCell (.inl (by simp)) _
  refine ⟨?_, ?_, ?_, ?_, ((hI.m.trans m2).fresh m3 (fun q hq => .inr (far q hq))).fresh m4 (fun q hq => .inr (by simp at hq; omega)), hab, ((hI.z.mod m2 (by simp; omega)).mod m3 (own_notArr hG2 (hI.z.mod m2 (by simp; omega)) (by decide))).mod m4 (by simp)⟩
  · rw [e]
    exact h0.far (h0.far hS2 m3 far) m4 (fun q hq => by simp at hq; omega)
  · rw [e]
    exact own_mod hL3 m4 (fun q hq e => own_notArr hL3 hA3 (by decide) (by simp at e; subst e; simpa using hq))
  · rw [e]
    show (w3.setCell ⟨ab, 2, none⟩ gv').ownsRow _ _ _ _ ((x.upto k).out ++ [((x.upto k).last + 1, h)]).length (gcells ((x.upto k).out ++ [((x.upto k).last + 1, h)]))
    rw [gcells_snoc, List.length_append]
    exact own_mod ho m4 (fun q hq e => own_notArr ho hA3 (by decide) (by simp at e; subst e; simpa using hq))
  · exact (hA3.set 2 gv').congr fun i hi => by
      match i, hi with
      | 0, _ | 1, _ | 2, _ | 3, _ | 4, _ => rfl
theorem srv_end {w wr : World} {B sv bT bB mB : Nat} {v : Value} {x : GS} {dv : Value} {p5 p6 : Option Addr} {n5 n6 c5 c6 k : Nat} (h0 : Sv w B sv bT bB mB v x) (hI : SrvW w wr B sv bT bB mB w.heap.size v x dv k (.slice p5 n5 c5) (.slice p6 n6 c6)) (hk : k = x.wl.length) :
    SrvPost w B sv bT bB mB x dv (.returned (.agg #[.int .i64 0, .int .i64 0, .slice p6 n6 c6, .slice none 0 0, dv]))
      (put5 (wr.setCell ⟨sv, 2, none⟩ (.slice p5 n5 c5)) (w.heap.size + 1) (.int .i64 0) (.int .i64 0) (.slice p6 n6 c6) (.slice none 0 0) dv) := by
  subst hk
  have e := x.upto_all
  have hsv := h0.arr.lt
  obtain ⟨a1, a2, a3, a4, a5, a6, a7, a8, a9, a10⟩ := hI.s.apart
  have m1 : Mod [sv] wr (wr.setCell ⟨sv, 2, none⟩ (.slice p5 n5 c5)) := (Mod.refl _ _).setCell (.inl (by simp)) _
  have m2 := put5_mod (wr.setCell ⟨sv, 2, none⟩ (.slice p5 n5 c5)) (w.heap.size + 1) (.int .i64 0) (.int .i64 0) (.slice p6 n6 c6) (.slice none 0 0) dv
  have A1 : Arr (wr.setCell ⟨sv, 2, none⟩ (.slice p5 n5 c5)) sv 47 5 (svF bT bB mB (.slice p5 n5 c5) x.srv.last) := (hI.s.arr.set 2 _).congr fun i hi => by
    rw [← e]
    match i, hi with
    | 0, _ | 1, _ | 2, _ | 3, _ | 4, _ => rfl
  have L1 : ∀ q, q ∈ (Value.slice p5 n5 c5).ownBlock.toList → w.heap.size ≤ q := own_far hI.l
  have hg0 := own_mod hI.g m1 (fun q hq e => by have := (own_lt' hI.g q hq).1; simp at e; omega)
  have hl0 := own_mod hI.l m1 (fun q hq e => by have := (own_lt' hI.l q hq).1; simp at e; omega)
  have hz0 := hI.z.mod m1 (by simp; omega)
  rw [e] at hg0 hl0
  have hwh : 1 < sv := by have := h0.lo; have := h0.l1; omega
  have S1 : Sv (wr.setCell ⟨sv, 2, none⟩ (.slice p5 n5 c5)) B sv bT bB mB (.slice p5 n5 c5) x.served :=
    ⟨A1, by have := hI.s.tb.mod m1 (by simpa using Ne.symm a1); rw [e] at this; exact this, hI.s.bk.mod m1 (by simpa using Ne.symm a2), own_base hl0 (by have := h0.l1; omega), hI.s.by'.mod m1 (by simpa using a4), Sv.whole_mod hI.s.wh m1 (by simp; omega), inv_served h0.inv, h0.lo, h0.l1, h0.l2, h0.l3, h0.l4⟩
  have hm : Mod [sv, bT] w (put5 (wr.setCell ⟨sv, 2, none⟩ (.slice p5 n5 c5)) (w.heap.size + 1) (.int .i64 0) (.int .i64 0) (.slice p6 n6 c6) (.slice none 0 0) dv) :=
    (hI.m.trans (m1.mono (by simp))).fresh m2 (fun q hq => .inr (by simp at hq; omega))
  refine ⟨.slice p6 n6 c6, .slice p5 n5 c5, rfl, ?_, ?_, fun k hk => L1 k (by simpa using hk), hm⟩
  · exact own_mod hg0 m2 (fun q hq e => own_notArr hg0 hz0 (by decide) (by simp at e; subst e; simpa using hq))
  · have hb1 := h0.tb.lt
    have hb2 := h0.bk.arr.lt
    have hb3 := h0.by'.lt
    exact S1.mod m2 (by simp; omega) (by simp; omega) (by simp; omega) (by simp; omega) (fun q hq e => own_notArr hl0 hz0 (by decide) (by simp at e; subst e; simpa using hq)) (fun hq => by have := List.mem_singleton.1 hq; omega)
set_option maxRecDepth 100000 in
set_option maxHeartbeats 4000000 in
theorem serve_calls (w : World) (B sv bT bB mB : Nat) (v : Value) (x : GS) (dv : Value) (hS : Sv w B sv bT bB mB v x) (hd : ∃ p n c, dv = .slice p n c) :
    Calls Tryd.prog 120 #[.pointer (some ⟨sv, 0, none⟩), .agg #[.int .i64 0, .int .i64 0, .slice none 0 0, .slice none 0 0, dv]] w (SrvPost w B sv bT bB mB x dv) := by
  have hsv := hS.arr.lt
  have hbT := hS.tb.lt
  obtain ⟨p0, cap0, rfl, hcap1, hcap2, hcell⟩ := own_holds' hS.wt
  have c2 := hS.c2
  have HS := Lib.hid hS
  have HC := Lib.hid hcell
  have h32 := hS.inv.len
  clear hS hcell
  go_enter Tryd.func120, Tryd.ntmps120
  go_wp2
  go_loopw [16, 5] (fun i lv wr => ∃ (k : Nat) (gv : Value), k ≤ x.wl.length ∧ i = .int .i64 k ∧ SrvW w wr B sv bT bB mB w.heap.size (.slice p0 x.wl.length cap0) x dv k lv gv) (fun i _ _ => x.wl.length - (intOf i).toNat)
  case atStart =>
    exact ⟨0, .slice none 0 0, Nat.zero_le _, rfl, srv_start HS.out dv⟩
  case round =>
    obtain ⟨k, gv, hk, rfl, hI⟩ := hrel
    by_cases hlt : k < x.wl.length
    · have i0 : (0 : Int) ≤ (k : Int) := by omega
      have i1 : (k : Int) < (x.wl.length : Int) := by omega
      obtain ⟨g, rfl, hg0, hg1, hx⟩ := HC.out (by omega)
      obtain ⟨h, hh⟩ : ∃ h, x.wl[k]? = some h := ⟨_, List.getElem?_eq_getElem hlt⟩
      have OK := Lib.hid (HS.out.inv.wl h (List.mem_of_getElem? hh))
      obtain ⟨y0, y1, y2, y3⟩ := hx k h hh
      have hgs : g ∉ [sv, bT] := by
        obtain ⟨a1, a2, a3, a4, a5, a6, a7, a8, a9, a10⟩ := HS.out.apart
        simp [Value.ownBlock] at a7 a8
        simp
        exact ⟨Ne.symm a7, Ne.symm a8⟩
      replace y0 := hI.m.cell' y0 hgs
      replace y1 := hI.m.cell' y1 hgs
      replace y2 := hI.m.cell' y2 hgs
      replace y3 := hI.m.cell' y3 hgs
      have HI := Lib.hid hI
      have HH := Lib.hid hh
      have HGS := Lib.hid hgs
      have c2r := hI.s.c2
      have c3r := hI.s.c3
      obtain ⟨ls, hls⟩ : ∃ ls, ls = (x.upto k).last := ⟨_, rfl⟩
      have HLS := Lib.hid hls
      have e3 : (x.at (x.upto k)).last = ls := by rw [hls]; rfl
      rw [e3] at c3r
      have hsr : sv < wr.heap.size := hI.s.arr.lt
      have hlen : (x.upto k).left.length ≤ 32 := Nat.le_trans (Nat.le_trans (GS.upto_inv x HS.out.inv.last k).left.length_le (List.length_take_le _ _)) (by omega)
      have hlen2 : (x.upto k).out.length ≤ 32 := by
        have := (GS.upto_inv x HS.out.inv.last k).len
        have := List.length_take_le k x.wl
        omega
      obtain ⟨w1, hw1⟩ : ∃ w1, w1 = wr.alloc (.cells #[.int .i64 h.1, .int .i64 h.2.1, .int .i64 h.2.2.1, .int .i64 h.2.2.2] 39) := ⟨_, rfl⟩
      have m1 : Mod [] wr w1 := by rw [hw1]; exact (Mod.refl _ _).alloc _
      have A1 : Arr w1 wr.heap.size 39 4 (holdF h) := by rw [hw1]; exact hold_new wr h
      have HW1 := Lib.hid hw1
      have HA1 := Lib.hid A1
      have M1 := Lib.hid m1
      have hs1 : w1.heap.size = wr.heap.size + 1 := by rw [hw1]; simp
      have HSZ := Lib.hid hs1
      clear hx hh hgs hI hls e3 hw1 A1 m1 hs1
      by_cases hfull : 1099511627776 ≤ ls
      · have hf1 : (1099511627776 : Int) ≤ (ls : Int) := by omega
        have hown := own_mod HI.out.l (((Mod.refl [] wr).alloc (.cells #[.int .i64 h.1, .int .i64 h.2.1, .int .i64 h.2.2.1, .int .i64 h.2.2.2] 39)).alloc (.cells #[.int .i64 h.1, .int .i64 h.2.1, .int .i64 h.2.2.1, .int .i64 h.2.2.2] 39)) (by simp)
        have HO := Lib.hid hown
        have HN := Lib.hid (hnews_at2 wr (.cells #[.int .i64 h.1, .int .i64 h.2.1, .int .i64 h.2.2.1, .int .i64 h.2.2.2] 39) h)
        clear hown
        go_wp2_with (at_builtin; refine app1 w.heap.size 31 39 (.agg #[.int .i64 0, .int .i64 0, .int .i64 0, .int .i64 0]) 4 32 Tryd.underlying31 info_hold rfl (by omega) (by omega) rfl _ _ rfl u5 _ _ rfl HO.out (wr.heap.size + 1) (hcell h) rfl rfl HN.out (by simp [hcell, Value.oneCell']) (by omega) (by have := HI.out.m.size; simp; omega) ?_; intro g1 cap1 w3 ho2 hm2 hgg hbg)
        go_roundw
        case rel => exact ⟨k + 1, gv, by omega, by go_num, HI.out.toLeft HS.out HH.out (step_full (by rw [← HLS.out]; exact hfull)) (HI.out.s.mod0 (((Mod.refl [] wr).alloc _).alloc _)) (((Mod.refl _ _).alloc _).alloc _) ho2 hm2⟩
        case measure => simp [intOf]; omega
      · have hf1 : ¬ (1099511627776 : Int) ≤ (ls : Int) := by omega
        have hn7 : wr.heap.size ∉ [sv, bT] := by
          have := HI.out.s.tb.lt
          simp
          omega
        have hsw : sv < w.heap.size := hsv
        have GV := Lib.hid (give_calls w1 B sv bT bB mB (.slice (some ⟨g, 0, none⟩) x.wl.length cap0) (x.at (x.upto k)) h (by have := OK.out.2.2.2; omega) u5 (x.upto k).left (fun y hy => by have := (HS.out.inv.wl y (List.mem_of_mem_take ((GS.upto_inv x HS.out.inv.last k).left.subset hy))).2.2.2; omega) (hs_own (own_mod HI.out.l M1.out (by simp))) (HI.out.s.mod0 M1.out) (by show (x.upto k).last < maxS; rw [← HLS.out]; unfold maxS; omega))
        go_wp2_with fail
        rw [← HW1.out]
        refine GV.out.mono ?_
        rintro e w2 (⟨f1, rfl, m0⟩ | ⟨f1, f2, rfl, S2, m0⟩ | ⟨f1, f2, rfl, S2, m0⟩)
        · have m2 : Mod [sv, bT] w1 w2 := m0.nil
          have A2 := HA1.out.mod m2 hn7
          have z0 := A2.cell 0 (by omega)
          have z1 := A2.cell 1 (by omega)
          have z2 := A2.cell 2 (by omega)
          have z3 := A2.cell 3 (by omega)
          simp only [holdF, if_true, if_false, Nat.reduceEqDiff] at z0 z1 z2 z3
          have M2 := Lib.hid m2
          have hsz2 := m2.size
          have HS2 := Lib.hid (HI.out.s.mod0 (M1.out.trans m0))
          have HST := Lib.hid (step_clash (s := x.upto k) (h := h) f1)
          clear m0 f1
          have HO := Lib.hid ((own_mod HI.out.l (M1.out.nil.trans M2.out) (fun q hq e => by have := own_lt' HI.out.l q hq; have := hsw; have := hbT; simp at e; omega) |> fun o => own_mod o ((Mod.refl [] w2).alloc (.cells #[.int .i64 h.1, .int .i64 h.2.1, .int .i64 h.2.2.1, .int .i64 h.2.2.2] 39)) (by simp)))
          have HN := Lib.hid (hnews_at w2 h)
          clear A2 m2
          go_wp2_with (at_builtin; refine app1 w.heap.size 31 39 (.agg #[.int .i64 0, .int .i64 0, .int .i64 0, .int .i64 0]) 4 32 Tryd.underlying31 info_hold rfl (by omega) (by omega) rfl _ _ rfl u5 _ _ rfl HO.out w2.heap.size (hcell h) rfl rfl HN.out (by simp [hcell, Value.oneCell']) (by omega) (by have := HI.out.m.size; have := HSZ.out; simp; omega) ?_; intro g1 cap1 w3 ho2 hm2 hgg hbg)
          go_roundw
          case rel => exact ⟨k + 1, gv, by omega, by go_num, HI.out.toLeft HS.out HH.out HST.out (HS2.out.mod0 ((Mod.refl [] w2).alloc _)) ((M1.out.nil.trans M2.out).alloc _) ho2 hm2⟩
          case measure => simp [intOf]; omega
        · have m2 : Mod [sv, bT] w1 w2 := m0.mono (by simp)
          have A2 := HA1.out.mod m2 hn7
          have z0 := A2.cell 0 (by omega)
          have z1 := A2.cell 1 (by omega)
          have z2 := A2.cell 2 (by omega)
          have z3 := A2.cell 3 (by omega)
          simp only [holdF, if_true, if_false, Nat.reduceEqDiff] at z0 z1 z2 z3
          have M2 := Lib.hid m2
          have hsz2 := m2.size
          have HS2 := Lib.hid S2
          have HST := Lib.hid (step_err (s := x.upto k) (h := h) f2)
          have f3 : (putEH (x.at (x.upto k)).t h != 0) = true := by simpa using f2
          clear m0 f1 f2 S2
          generalize putEH (x.at (x.upto k)).t h = pe at *
          have HO := Lib.hid ((own_mod HI.out.l (M1.out.nil.trans M2.out) (fun q hq e => by have := own_lt' HI.out.l q hq; have := hsw; have := hbT; simp at e; omega) |> fun o => own_mod o ((Mod.refl [] w2).alloc (.cells #[.int .i64 h.1, .int .i64 h.2.1, .int .i64 h.2.2.1, .int .i64 h.2.2.2] 39)) (by simp)))
          have HN := Lib.hid (hnews_at w2 h)
          clear A2 m2
          go_wp2_with (at_builtin; refine app1 w.heap.size 31 39 (.agg #[.int .i64 0, .int .i64 0, .int .i64 0, .int .i64 0]) 4 32 Tryd.underlying31 info_hold rfl (by omega) (by omega) rfl _ _ rfl u5 _ _ rfl HO.out w2.heap.size (hcell h) rfl rfl HN.out (by simp [hcell, Value.oneCell']) (by omega) (by have := HI.out.m.size; have := HSZ.out; simp; omega) ?_; intro g1 cap1 w3 ho2 hm2 hgg hbg)
          go_roundw
          case rel => exact ⟨k + 1, gv, by omega, by go_num, HI.out.toLeft HS.out HH.out HST.out (HS2.out.mod0 ((Mod.refl [] w2).alloc _)) ((M1.out.nil.trans M2.out).alloc _) ho2 hm2⟩
          case measure => simp [intOf]; omega
        · have m2 : Mod [sv, bT] w1 w2 := m0
          have A2 := HA1.out.mod m2 hn7
          have z0 := A2.cell 0 (by omega)
          have z1 := A2.cell 1 (by omega)
          have z2 := A2.cell 2 (by omega)
          have z3 := A2.cell 3 (by omega)
          simp only [holdF, if_true, if_false, Nat.reduceEqDiff] at z0 z1 z2 z3
          have M2 := Lib.hid m2
          have hsz2 := m2.size
          have HS2 := Lib.hid S2
          have HST := Lib.hid (step_ok (s := x.upto k) (h := h) (by rw [← HLS.out]; unfold maxS; omega) f1 f2)
          clear m0 f1 f2 S2
          have HA2 := Lib.hid (HI.out.a.mod (M1.out.nil.trans M2.out) (by simp; omega))
          have q2 := HA2.out.cell 2 (by omega)
          simp only [ansF, if_true, if_false, Nat.reduceEqDiff] at q2
          obtain ⟨nl, hnl⟩ : ∃ nl : Nat, nl = (x.upto k).last + 1 := ⟨_, rfl⟩
          rw [show (x.at (x.upto k)).last + 1 = nl from hnl.symm]
          rw [← hnl] at HST
          have HS2 := Lib.hid (show Sv w2 B sv bT bB mB (.slice (some ⟨g, 0, none⟩) x.wl.length cap0) (x.at ⟨putTH (x.upto k).t h, nl, (x.upto k).left, (x.upto k).out ++ [(nl, h)]⟩) by rw [hnl]; exact HS2.out)
          have HO := Lib.hid ((own_mod HI.out.g (M1.out.nil.trans M2.out) (fun q hq e => by have := own_lt' HI.out.g q hq; have := hsw; have := hbT; simp at e; omega) |> fun o => own_mod o ((Mod.refl [] w2).alloc (.cells #[.int .i64 nl, .int .i64 h.1, .int .i64 h.2.1, .int .i64 h.2.2.1, .int .i64 h.2.2.2] 71)) (by simp)))
          have HN := Lib.hid (gnews_at w2 (nl, h))
          have HNL := Lib.hid hnl
          clear A2 m2 hnl
          go_wp2_with (at_builtin; refine app1 w.heap.size 30 71 (.agg #[.int .i64 0, .int .i64 0, .int .i64 0, .int .i64 0, .int .i64 0]) 5 40 Tryd.underlying30 info_grant rfl (by omega) (by omega) rfl _ _ rfl gv _ _ rfl HO.out w2.heap.size (gcell (nl, h)) rfl rfl HN.out (by simp [gcell, Value.oneCell']) (by omega) (by have := HI.out.m.size; have := HSZ.out; simp; omega) ?_; intro g1 cap1 w3 ho2 hm2 hgg hbg; have A3 := (HA2.out.alloc (.cells #[.int .i64 nl, .int .i64 h.1, .int .i64 h.2.1, .int .i64 h.2.2.1, .int .i64 h.2.2.2] 71)).mod hm2 (own_notArr HO.out (HA2.out.alloc _) (by decide)); have q3 := A3.cell 2 (by omega); simp only [ansF, if_true, if_false, Nat.reduceEqDiff] at q3; have fr3 := A3.free 2; clear A3)
          go_roundw
          case rel => exact ⟨k + 1, _, by omega, by go_num, HI.out.toOut HS.out HH.out (by rw [HNL.out] at HST; exact HST.out) (by have := HS2.out; rw [HNL.out] at this; exact this.mod0 ((Mod.refl [] w2).alloc _)) ((M1.out.nil.trans M2.out).alloc _) (by rw [HNL.out] at ho2; exact ho2) hm2⟩
          case measure => simp [intOf]; omega
    · obtain rfl : k = x.wl.length := by omega
      have i1 : ¬ (x.wl.length : Int) < (x.wl.length : Int) := by omega
      have hsr : sv < wr.heap.size := hI.s.arr.lt
      have c2r := hI.s.c2
      have f2r := hI.s.arr.free 2
      have P0 := hI.a.cell 0 (by omega)
      have P1 := hI.a.cell 1 (by omega)
      have P2 := hI.a.cell 2 (by omega)
      have P3 := hI.a.cell 3 (by omega)
      have P4 := hI.a.cell 4 (by omega)
      simp only [ansF, if_true, if_false, Nat.reduceEqDiff] at P0 P1 P2 P3 P4
      have Z := hI.z
      have ZH := Lib.hid Z
      obtain ⟨p5, c5, rfl⟩ := own_len hI.l
      obtain ⟨p6, c6, rfl⟩ := own_len hI.g
      have zf : ∀ i, (wr.setCell ⟨sv, 2, none⟩ (.slice p5 (x.upto x.wl.length).left.length c5)).frozen? ⟨w.heap.size + 1, i, none⟩ = false := fun i => (Z.other (by show sv ≠ _; omega) _).free i
      have zf0 := zf 0
      have zf1 := zf 1
      have zf2 := zf 2
      have zf3 := zf 3
      have zf4 := zf 4
      have Z0 := Z.cell 0 (by omega)
      have Z1 := Z.cell 1 (by omega)
      have Z2 := Z.cell 2 (by omega)
      have Z3 := Z.cell 3 (by omega)
      have Z4 := Z.cell 4 (by omega)
      simp only [ansF, if_true, if_false, Nat.reduceEqDiff] at Z0 Z1 Z2 Z3 Z4
      have HI := Lib.hid hI
      have ne1 : w.heap.size ≠ sv := by omega
      have ne2 : w.heap.size + 1 ≠ sv := by omega
      obtain ⟨pd, nd, cd, rfl⟩ := hd
      clear hI Z zf
      go_wp2
      exact bodyPost_ret (ans_res rfl rfl (put5_arr (ZH.out.other (by show sv ≠ _; omega) _) _ _ _ _ _)) rfl (srv_end HS.out HI.out rfl)
end Go.Proofs.YtijjbkkcienfgaaDoor
