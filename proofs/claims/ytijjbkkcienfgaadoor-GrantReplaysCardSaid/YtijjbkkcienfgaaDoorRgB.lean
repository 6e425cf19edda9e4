/- What waits is served, at the document's side. No condition beyond what stands in each. Asking, at the document's side. No condition beyond what stands in each. -/
import Derived.Test.YtijjbkkcienfgaaDoorRgA
import Derived.Deep.RegionLaw
import Derived.Laws.AppendOwnNone
namespace Go.Proofs.YtijjbkkcienfgaaDoor.Rf
open Go.RowKit
set_option linter.unusedVariables false
set_option linter.unusedSimpArgs false
attribute [local go_sem ↓] Go.wp_at_zero Go.wp_at_succ

theorem info_rgrant : (Tryd.prog.info? 105).map (fun i => (i.zero, i.size, i.bytes)) = some (some (.agg #[.int .i64 0, .int .i64 0, .int .i64 0, .int .i64 0, .int .i64 0]), 5, 40) := by kernel_rfl
theorem ok_full {s : SrvT} {h : HoldT} (e : maxS ≤ s.last) : srvOk s h = false := by
  unfold srvOk
  rw [decide_eq_false (by omega)]
  rfl
theorem ok_clash {s : SrvT} {h : HoldT} (e : freeT s.t h s.left = false) : srvOk s h = false := by
  unfold srvOk
  rw [e]
  simp
theorem ok_put {s : SrvT} {h : HoldT} (e0 : s.last < maxS) (e1 : freeT s.t h s.left = true) : srvOk s h = decide (putEH s.t h = 0) := by
  unfold srvOk
  rw [e1, decide_eq_true e0]
  rfl
def okT' (s : SrvT) (h : HoldT) : Nat → Nat → Nat := if srvOk s h = true then putTH s.t h else s.t
theorem okT_no {s : SrvT} {h : HoldT} (e : srvOk s h = false) : okT' s h = s.t := by unfold okT'; rw [e]; simp
theorem okT_put {s : SrvT} {h : HoldT} (e : srvOk s h = decide (putEH s.t h = 0)) : okT' s h = putTH s.t h := by
  unfold okT'
  rw [e]
  by_cases z : putEH s.t h = 0
  · rw [if_pos (by simp [z])]
  · rw [if_neg (by simp [z])]
    unfold putTH putT
    rw [if_neg (by unfold putEH at z; exact z)]
/-- Serving, as far as it has come. -/
structure RW (w wr : World) (X : List Nat) (N0 sv rT bB gT gS gD cap gy cy : Nat) (v : Value) (x : GS) (k : Nat) (lv gv : Value) : Prop where
  s : RSv wr (lv.ownBlock.toList ++ gv.ownBlock.toList ++ X) N0 sv rT bB gT gS gD cap gy cy v (x.at (x.upto k))
  l : wr.ownsRow w.heap.size 39 4 lv (x.upto k).left.length (hcells (x.upto k).left)
  g : wr.ownsRow w.heap.size 105 5 gv (x.upto k).out.length (gcells (x.upto k).out)
  m : Mod [sv, rT] w wr
theorem own_none (w : World) (e sz g base : Nat) (hg : w.heap[g]? = some (.cells #[] e (0, 0))) (hb : base ≤ g) : w.ownsRow base e sz (.slice (some ⟨g, 0, none⟩) 0 0) 0 [] :=
  ⟨by simp, .inr ⟨g, 0, #[], rfl, hb, hg, by simp, by unfold maxLen; omega, by simp, by simp⟩⟩
theorem rw_start {w : World} {X : List Nat} {N0 sv rT bB gT gS gD cap gy cy : Nat} {v : Value} {x : GS} (h : RSv w X N0 sv rT bB gT gS gD cap gy cy v x) :
    RW w ((w.alloc (.cells #[] 105)).alloc (.cells #[] 39)) X N0 sv rT bB gT gS gD cap gy cy v x 0 (.slice (some ⟨w.heap.size + 1, 0, none⟩) 0 0) (.slice (some ⟨w.heap.size, 0, none⟩) 0 0) := by
  have m : Mod [] w ((w.alloc (.cells #[] 105)).alloc (.cells #[] 39)) := ((Mod.refl _ _).alloc _).alloc _
  have e : (w.alloc (.cells #[] 105)).heap.size = w.heap.size + 1 := by simp
  have h2 := heap_alloc_new (w.alloc (.cells #[] 105)) (.cells #[] 39)
  rw [e] at h2
  refine ⟨h.step m (by simp) (fun z hz => ?_), own_none _ _ _ _ _ h2 (by omega), own_none _ _ _ _ _ (by rw [Below.heap_alloc _ _ _ (by omega)]; exact heap_alloc_new _ _) (Nat.le_refl _), m.nil⟩
  simp [Value.ownBlock] at hz
  rcases hz with e | e | e
  · exact .inr (by omega)
  · exact .inr (by omega)
  · exact .inl e
def RSrvP (w : World) (X : List Nat) (N0 sv rT bB gT gS gD cap gy cy : Nat) (x : GS) (e : Ending) (w' : World) : Prop :=
  ∃ gv v', e = .returned gv ∧ w'.ownsRow w.heap.size 105 5 gv x.srv.out.length (gcells x.srv.out) ∧ RSv w' X N0 sv rT bB gT gS gD cap gy cy v' x.served ∧ Mod [sv, rT] w w'
section
variable {w wr w2 w3 : World} {X : List Nat} {N0 sv rT bB gT gS gD cap gy cy : Nat} {v : Value} {x : GS} {k : Nat} {lv gv lv' gv' : Value} {h : HoldT}
theorem RW.toLeft (hI : RW w wr X N0 sv rT bB gT gS gD cap gy cy v x k lv gv) (h0 : RSv w X N0 sv rT bB gT gS gD cap gy cy v x) (hh : x.wl[k]? = some h) (hst : srvOk (x.upto k) h = false)
    (hS2 : RSv w2 (lv.ownBlock.toList ++ gv.ownBlock.toList ++ X) N0 sv rT bB gT gS gD cap gy cy v (x.at (x.upto k))) (m2 : Mod [sv, rT] wr w2)
    (ho : w3.ownsRow w.heap.size 39 4 lv' ((x.upto k).left.length + 1) (hcells (x.upto k).left ++ hcell h)) (m3 : Mod lv.ownBlock.toList w2 w3) (hg : ∀ q, lv'.ownBlock = some q → lv.ownBlock = some q ∨ w2.heap.size ≤ q) : RW w w3 X N0 sv rT bB gT gS gD cap gy cy v x (k + 1) lv' gv := by
  have e : x.upto (k + 1) = ⟨(x.upto k).t, (x.upto k).last, (x.upto k).left ++ [h], (x.upto k).out⟩ := (x.upto_succ hh).trans (by unfold srvStep; rw [if_neg (by rw [hst]; simp)])
  have far := own_far hI.l
  have hsv := h0.arr.lt
  have hrT := h0.lt rT (by simp [RbL])
  have hG2 := own_mod hI.g m2 (fun q hq e => by have := (own_lt' hI.g q hq).1; simp at e; omega)
  have hL2 := own_mod hI.l m2 (fun q hq e => by have := (own_lt' hI.l q hq).1; simp at e; omega)
  refine ⟨?_, ?_, ?_, (hI.m.trans m2).fresh m3 (fun q hq => .inr (far q hq))⟩
  · rw [e]
    refine RSv.step (x := x.at ⟨(x.upto k).t, (x.upto k).last, (x.upto k).left ++ [h], (x.upto k).out⟩) hS2 m3 (fun z hz => .inl (by simp at hz ⊢; exact .inl hz)) (fun z hz => ?_)
    simp at hz ⊢
    rcases hz with hz | hz | hz
    · rcases hg z hz with hz | hz
      · exact .inl (.inl hz)
      · exact .inr hz
    · exact .inl (.inr (.inl hz))
    · exact .inl (.inr (.inr hz))
  · rw [e]
    show w3.ownsRow _ _ _ _ ((x.upto k).left ++ [h]).length (hcells ((x.upto k).left ++ [h]))
    rw [hcells_snoc, List.length_append]
    exact ho
  · rw [e]
    exact own_mod hG2 m3 (own_apart hL2 hG2 (by decide))
theorem RW.toOut {T' : Nat → Nat → Nat} (hI : RW w wr X N0 sv rT bB gT gS gD cap gy cy v x k lv gv) (h0 : RSv w X N0 sv rT bB gT gS gD cap gy cy v x) (hh : x.wl[k]? = some h) (hst : srvOk (x.upto k) h = true) (hT : T' = putTH (x.upto k).t h)
    (hS2 : RSv w2 (lv.ownBlock.toList ++ gv.ownBlock.toList ++ X) N0 sv rT bB gT gS gD cap gy cy v { x with t := T', last := (x.upto k).last + 1 }) (m2 : Mod [sv, rT] wr w2)
    (ho : w3.ownsRow w.heap.size 105 5 gv' ((x.upto k).out.length + 1) (gcells (x.upto k).out ++ gcell ((x.upto k).last + 1, h))) (m3 : Mod gv.ownBlock.toList w2 w3) (hg : ∀ q, gv'.ownBlock = some q → gv.ownBlock = some q ∨ w2.heap.size ≤ q) : RW w w3 X N0 sv rT bB gT gS gD cap gy cy v x (k + 1) lv gv' := by
  subst hT
  have e : x.upto (k + 1) = ⟨putTH (x.upto k).t h, (x.upto k).last + 1, (x.upto k).left, (x.upto k).out ++ [((x.upto k).last + 1, h)]⟩ := (x.upto_succ hh).trans (by unfold srvStep; rw [if_pos hst])
  have far := own_far hI.g
  have hsv := h0.arr.lt
  have hrT := h0.lt rT (by simp [RbL])
  have hG2 := own_mod hI.g m2 (fun q hq e => by have := (own_lt' hI.g q hq).1; simp at e; omega)
  have hL2 := own_mod hI.l m2 (fun q hq e => by have := (own_lt' hI.l q hq).1; simp at e; omega)
  refine ⟨?_, ?_, ?_, (hI.m.trans m2).fresh m3 (fun q hq => .inr (far q hq))⟩
  · rw [e]
    refine RSv.step (x := x.at ⟨putTH (x.upto k).t h, (x.upto k).last + 1, (x.upto k).left, (x.upto k).out ++ [((x.upto k).last + 1, h)]⟩) hS2 m3 (fun z hz => .inl (by simp at hz ⊢; exact .inr (.inl hz))) (fun z hz => ?_)
    simp at hz ⊢
    rcases hz with hz | hz | hz
    · exact .inl (.inl hz)
    · rcases hg z hz with hz | hz
      · exact .inl (.inr (.inl hz))
      · exact .inr hz
    · exact .inl (.inr (.inr hz))
  · rw [e]
    exact own_mod hL2 m3 (own_apart hG2 hL2 (by decide))
  · rw [e]
    show w3.ownsRow _ _ _ _ ((x.upto k).out ++ [((x.upto k).last + 1, h)]).length (gcells ((x.upto k).out ++ [((x.upto k).last + 1, h)]))
    rw [gcells_snoc, List.length_append]
    exact ho
theorem rsrv_end {p5 p6 : Option Addr} {n5 n6 c5 c6 : Nat} (h0 : RSv w X N0 sv rT bB gT gS gD cap gy cy v x) (hX : ∀ z, z ∈ X → z < w.heap.size) (hI : RW w wr X N0 sv rT bB gT gS gD cap gy cy v x k (.slice p5 n5 c5) (.slice p6 n6 c6)) (hk : k = x.wl.length) :
    RSrvP w X N0 sv rT bB gT gS gD cap gy cy x (.returned (.slice p6 n6 c6)) (wr.setCell ⟨sv, 2, none⟩ (.slice p5 n5 c5)) := by
  subst hk
  have e := x.upto_all
  have m1 : Mod [sv] wr (wr.setCell ⟨sv, 2, none⟩ (.slice p5 n5 c5)) := (Mod.refl _ _).setCell (.inl (by simp)) _
  have hsv := h0.arr.lt
  have hI2 := hI.s.other (X' := X) (fun z hz => .inl (List.mem_append.2 (.inr hz)))
  have hl := hI.l
  have hg := hI.g
  rw [e] at hl hg hI2
  refine ⟨.slice p6 n6 c6, .slice p5 n5 c5, rfl, own_mod hg m1 (fun q hq e => by have := (own_lt' hg q hq).1; simp at e; omega), ?_, (hI.m.trans (m1.mono (by simp)))⟩
  refine RSv.setV (l := x.srv.left) (n := x.srv.last) (x := x.at x.srv) hI2 (own_base hl (Nat.zero_le _)) (fun q hq e => ?_) (inv_served h0.inv) (fun j hj => ?_)
  · have := (own_lt' hl q hq).1
    have := hX q e
    omega
  · match j, hj with
    | 0, _ | 1, _ | 2, _ | 3, _ | 4, _ => rfl
end
theorem gnews_r (w : World) (h : Nat × HoldT) : ∀ (j : Nat) u, (gcell h)[j]? = some u → (w.alloc (.cells #[.int .i64 (h.1 : Nat), .int .i64 h.2.1, .int .i64 h.2.2.1, .int .i64 h.2.2.2.1, .int .i64 h.2.2.2.2] 105)).cell? ((⟨w.heap.size, 0, none⟩ : Addr).add j) = some u := by
  intro j u hj
  have hadd : (⟨w.heap.size, 0, none⟩ : Addr).add j = ⟨w.heap.size, j, none⟩ := by unfold Addr.add; split <;> simp_all
  rw [hadd]
  match j with
  | 0 | 1 | 2 | 3 | 4 => simp [gcell] at hj; subst hj; simp
  | j + 5 => simp [gcell] at hj
set_option maxRecDepth 100000 in
set_option maxHeartbeats 4000000 in
theorem rserve_calls (w : World) (X : List Nat) (N0 sv rT bB gT gS gD cap gy cy : Nat) (v : Value) (x : GS) (hS : RSv w X N0 sv rT bB gT gS gD cap gy cy v x) (hX : ∀ z, z ∈ X → z < w.heap.size) :
    Calls Tryd.prog 43 #[.pointer (some ⟨sv, 0, none⟩)] w (RSrvP w X N0 sv rT bB gT gS gD cap gy cy x) := by
  have hsv := hS.arr.lt
  have hrT := hS.lt rT (by simp [RbL])
  have hne := hS.ne.1
  obtain ⟨p0, cap0, rfl, hcap1, hcap2, hcell⟩ := own_holds' hS.wt
  have HS := Lib.hid hS
  have HC := Lib.hid hcell
  have HX := Lib.hid hX
  have h32 := hS.inv.len
  have HST := Lib.hid (rw_start hS)
  clear hS hcell hX
  go_enter Tryd.func43, Tryd.ntmps43
  go_wp2
  go_loopw [3, 4, 5] (fun gv lv i wr => ∃ k : Nat, k ≤ x.wl.length ∧ i = .int .i64 k ∧ RW w wr X N0 sv rT bB gT gS gD cap gy cy (.slice p0 x.wl.length cap0) x k lv gv) (fun _ _ i _ => x.wl.length - (intOf i).toNat)
  case atStart => exact ⟨0, Nat.zero_le _, rfl, HST.out⟩
  case round =>
    obtain ⟨k, hk, rfl, hI⟩ := hrel
    have c2r := hI.s.c2
    have hsr : sv < wr.heap.size := hI.s.arr.lt
    by_cases hlt : k < x.wl.length
    · have i0 : (0 : Int) ≤ (k : Int) := by omega
      have i1 : (k : Int) < (x.wl.length : Int) := by omega
      obtain ⟨g, rfl, hg0, hg1, hx⟩ := HC.out (by omega)
      obtain ⟨h, hh⟩ : ∃ h, x.wl[k]? = some h := ⟨_, List.getElem?_eq_getElem hlt⟩
      obtain ⟨y0, y1, y2, y3⟩ := hx k h hh
      have hgs : g ∉ [sv, rT] := by
        have := HS.out.holds HS.out.wt g rfl
        simp [RbL] at this
        simp
        exact ⟨this.1, this.2.1⟩
      replace y0 := hI.m.cell' y0 hgs
      replace y1 := hI.m.cell' y1 hgs
      replace y2 := hI.m.cell' y2 hgs
      replace y3 := hI.m.cell' y3 hgs
      have HI := Lib.hid hI
      have HH := Lib.hid hh
      obtain ⟨st, hst⟩ : ∃ st, st = x.upto k := ⟨_, rfl⟩
      have hlen : st.left.length ≤ 32 := by rw [hst]; exact Nat.le_trans (Nat.le_trans (GS.upto_inv x HS.out.inv.last k).left.length_le (List.length_take_le _ _)) (by omega)
      have hlen2 : st.out.length ≤ 32 := by
        rw [hst]
        have := (GS.upto_inv x HS.out.inv.last k).len
        have := List.length_take_le k x.wl
        omega
      have c3r := hI.s.c3
      obtain ⟨ls, hls⟩ : ∃ ls, ls = st.last := ⟨_, rfl⟩
      have HLS := Lib.hid hls
      have e3 : (x.at (x.upto k)).last = ls := by rw [hls, hst]; rfl
      have e3t : (x.at (x.upto k)).t = st.t := by rw [hst]; rfl
      rw [e3] at c3r
      have HSTT := Lib.hid hst
      obtain ⟨w1, hw1⟩ : ∃ w1, w1 = wr.alloc (.cells #[.int .i64 h.1, .int .i64 h.2.1, .int .i64 h.2.2.1, .int .i64 h.2.2.2] 39) := ⟨_, rfl⟩
      have m1 : Mod [] wr w1 := by rw [hw1]; exact (Mod.refl _ _).alloc _
      have A1 : Arr w1 wr.heap.size 39 4 (holdF h) := by rw [hw1]; exact hold_new wr h
      have s1 := hI.s.mod0 m1
      have l1 := own_mod hI.l m1 (fun _ _ => by simp)
      have HW1 := Lib.hid hw1
      have HA1 := Lib.hid A1
      have M1 := Lib.hid m1
      have S1 := Lib.hid s1
      have KS := Lib.hid (And.intro s1.c0 (And.intro (show w1.cell? ⟨sv, 3, none⟩ = some (.int .i64 ls) by rw [← e3]; exact s1.c3) (And.intro (A1.cell 0 (by omega)) (And.intro (A1.cell 1 (by omega)) (And.intro (A1.cell 2 (by omega)) (A1.cell 3 (by omega)))))))
      simp only [holdF, if_true, if_false, Nat.reduceEqDiff] at KS
      have KSM := Lib.hid (fun w' (m : Mod [] w1.drew w') => And.intro (m.cell' KS.out.1 (by simp)) (And.intro (m.cell' KS.out.2.1 (by simp)) (And.intro (m.cell' KS.out.2.2.1 (by simp)) (And.intro (m.cell' KS.out.2.2.2.1 (by simp)) (And.intro (m.cell' KS.out.2.2.2.2.1 (by simp)) (m.cell' KS.out.2.2.2.2.2 (by simp)))))))
      have n7 : wr.heap.size ≠ sv ∧ wr.heap.size ≠ rT := by
        have := HI.out.s.lt rT (by simp [RbL])
        exact ⟨by omega, by omega⟩
      have KSR := Lib.hid (fun w0 w' (m0 : Mod [] w1.drew w0) (m : Mod [rT] w0 w') => And.intro (m.cell' (KSM.out w0 m0).1 (by simpa using hne)) (And.intro (m.cell' (KSM.out w0 m0).2.1 (by simpa using hne)) (And.intro (m.cell' (KSM.out w0 m0).2.2.1 (by simpa using n7.2)) (And.intro (m.cell' (KSM.out w0 m0).2.2.2.1 (by simpa using n7.2)) (And.intro (m.cell' (KSM.out w0 m0).2.2.2.2.1 (by simpa using n7.2)) (m.cell' (KSM.out w0 m0).2.2.2.2.2 (by simpa using n7.2)))))))
      obtain ⟨q, hq⟩ : ∃ q, q = srvOk st h := ⟨_, rfl⟩
      have HQ := Lib.hid hq
      have FR := Lib.hid ((rfree_calls w1.drew (u4.ownBlock.toList ++ u3.ownBlock.toList ++ X) sv rT st.t h u4 st.left s1.c0 (by have := (s1.mod0 (Mod.refl [] w1).drew).tb; rw [e3t] at this; exact this) (hs_own (by have := l1; rw [← hst] at this; exact own_mod this (Mod.refl [] w1).drew (fun _ _ => by simp)))))
      have PU := Lib.hid (fun w' (m : Mod [] w1.drew w') => rput_calls w' (u4.ownBlock.toList ++ u3.ownBlock.toList ++ X) rT st.t h.1 h.2.1 h.2.2.1 h.2.2.2 (by have := ((s1.mod0 (Mod.refl [] w1).drew).mod0 m).tb; rw [e3t] at this; exact this) (fun z hz => by
        have hsz := m.size
        have hsz1 : wr.heap.size ≤ w1.drew.heap.size := m1.size
        simp at hz
        rcases hz with hz | hz | hz
        · have := (own_lt' HI.out.l z hz).2; omega
        · have := (own_lt' HI.out.g z hz).2; omega
        · have := HX.out z hz; have := HI.out.m.size; omega))
      obtain ⟨T', hT'⟩ : ∃ T', T' = okT' st h := ⟨_, rfl⟩
      have HT' := Lib.hid hT'
      have hsz1 : w1.heap.size = wr.heap.size + 1 := by rw [hw1]; simp
      clear hx hh hgs hI hls e3 e3t hw1 A1 m1 hst hq hT' s1 l1
      go_upto_region 7 with (fail)
      rw [← HW1.out] at *
      go_cut [44] (fun s wx => s = .bool q ∧ RSv wx (u4.ownBlock.toList ++ u3.ownBlock.toList ++ X) N0 sv rT bB gT gS gD cap gy cy (.slice (some ⟨g, 0, none⟩) x.wl.length cap0) { x with t := T', last := ls } ∧ Mod [rT] w1 wx)
      case first =>
        by_cases hfull : 1099511627776 ≤ ls
        · have hf1 : decide ((ls : Int) < 1099511627776) = false := decide_eq_false (by omega)
          have E := Lib.hid (show q = false by rw [HQ.out]; exact ok_full (by rw [← HLS.out]; exact hfull))
          obtain ⟨ks0, ks1, ks2, ks3, ks4, ks5⟩ := KS.out
          clear hfull
          go_wp2
          go_quiet (fail)
          go_wp2
          go_meet
          refine ⟨by rw [E.out], ?_, ((Mod.refl [rT] w1).drewN _)⟩
          have := S1.out.mod0 ((Mod.refl [] w1).drewN nq)
          rw [HT'.out, okT_no (by rw [← HQ.out]; exact E.out)]
          rw [← HSTT.out] at this
          rw [HLS.out]
          exact this
        · have hf1 : decide ((ls : Int) < 1099511627776) = true := decide_eq_true (by omega)
          have hl9 : st.last < maxS := by rw [← HLS.out]; unfold maxS; omega
          have HL9 := Lib.hid hl9
          obtain ⟨fr, hfr⟩ : ∃ fr, fr = freeT st.t h st.left := ⟨_, rfl⟩
          rw [← hfr] at FR
          have HFR := Lib.hid hfr
          clear hfr hfull hl9
          cases fr with
          | false =>
            have E := Lib.hid (show q = false by rw [HQ.out]; exact ok_clash HFR.out.symm)
            obtain ⟨ks0, ks1, ks2, ks3, ks4, ks5⟩ := KS.out
            go_wp2
            first
              | (go_region_with (first
                | (go_at_call 71; (with_reducible refine FR.out.mono ?_); rintro e w2 ⟨rfl, m2⟩)))
              | fail
            all_goals
              have MF := Lib.hid (Mod.of_drew m2)
              clear m2
              go_wp2
              go_meet
              refine ⟨by rw [E.out], ?_, MF.out.nil⟩
              have := S1.out.mod0 MF.out
              rw [HT'.out, okT_no (by rw [← HQ.out]; exact E.out)]
              rw [← HSTT.out] at this
              rw [HLS.out]
              exact this
          | true =>
            have E0 := Lib.hid (ok_put (s := st) (h := h) HL9.out HFR.out.symm)
            obtain ⟨pe, hpe⟩ : ∃ pe, pe = putEH st.t h := ⟨_, rfl⟩
            have E := Lib.hid (show q = decide (pe = 0) by rw [HQ.out, hpe]; exact E0.out)
            have PU := Lib.hid (fun w' (m : Mod [] w1.drew w') => (PU.out w' m).mono (R' := fun e w'' => e = .returned (.int .i64 pe) ∧ RTab w'' (u4.ownBlock.toList ++ u3.ownBlock.toList ++ X) rT (putTH st.t h) ∧ Mod [rT] w' w'') (fun e w'' k => by
              obtain ⟨k1, k2, k3⟩ := k
              exact ⟨by rw [k1, hpe]; rfl, k2, k3⟩))
            have fin : ∀ w2 w3, Mod [] w1.drew w2 → RTab w3 (u4.ownBlock.toList ++ u3.ownBlock.toList ++ X) rT (putTH st.t h) → Mod [rT] w2 w3 → RSv w3 (u4.ownBlock.toList ++ u3.ownBlock.toList ++ X) N0 sv rT bB gT gS gD cap gy cy (.slice (some ⟨g, 0, none⟩) x.wl.length cap0) { x with t := T', last := ls } ∧ Mod [rT] w1 w3 := fun w2 w3 m2 t3 m3 => by
              have := RSv.setT (S1.out.mod0 (Mod.of_drew m2)) t3 m3
              rw [← HSTT.out] at this
              refine ⟨?_, (Mod.of_drew m2).nil.trans m3⟩
              rw [HT'.out, okT_put E0.out, HLS.out]
              exact this
            have FIN := Lib.hid fin
            clear hpe fin
            by_cases hp : pe = 0
            · subst hp
              go_wp2
              first
                | (go_region_held3 (fun w' => w'.cell? ⟨sv, 0, none⟩ = some (.pointer (some ⟨rT, 0, none⟩)) ∧ w'.cell? ⟨sv, 3, none⟩ = some (.int .i64 ls) ∧ w'.cell? ⟨wr.heap.size, 0, none⟩ = some (.int .i64 h.1) ∧ w'.cell? ⟨wr.heap.size, 1, none⟩ = some (.int .i64 h.2.1) ∧ w'.cell? ⟨wr.heap.size, 2, none⟩ = some (.int .i64 h.2.2.1) ∧ w'.cell? ⟨wr.heap.size, 3, none⟩ = some (.int .i64 h.2.2.2))
                    (first | exact KS.out | exact KSM.out _ (by assumption) | exact KSR.out _ _ (by assumption) (by assumption))
                    (first
                      | (go_at_call 71; (with_reducible refine FR.out.mono ?_); rintro e w2 ⟨rfl, m2⟩)
                      | (go_at_call 72; (with_reducible refine (PU.out _ m2).mono ?_); rintro e w3 ⟨rfl, t3, m3⟩)))
                | fail
              have F := Lib.hid (FIN.out _ _ m2 t3 m3)
              clear m2 t3 m3
              go_wp2
              go_meet
              exact ⟨by rw [E.out]; rfl, F.out.1, F.out.2⟩
            · have hp1 : (pe == 0) = false := by simpa using hp
              have E := Lib.hid (E.out.trans (decide_eq_false hp))
              clear hp
              go_wp2
              first
                | (go_region_held3 (fun w' => w'.cell? ⟨sv, 0, none⟩ = some (.pointer (some ⟨rT, 0, none⟩)) ∧ w'.cell? ⟨sv, 3, none⟩ = some (.int .i64 ls) ∧ w'.cell? ⟨wr.heap.size, 0, none⟩ = some (.int .i64 h.1) ∧ w'.cell? ⟨wr.heap.size, 1, none⟩ = some (.int .i64 h.2.1) ∧ w'.cell? ⟨wr.heap.size, 2, none⟩ = some (.int .i64 h.2.2.1) ∧ w'.cell? ⟨wr.heap.size, 3, none⟩ = some (.int .i64 h.2.2.2))
                    (first | exact KS.out | exact KSM.out _ (by assumption) | exact KSR.out _ _ (by assumption) (by assumption))
                    (first
                      | (go_at_call 71; (with_reducible refine FR.out.mono ?_); rintro e w2 ⟨rfl, m2⟩)
                      | (go_at_call 72; (with_reducible refine (PU.out _ m2).mono ?_); rintro e w3 ⟨rfl, t3, m3⟩)))
                | fail
              have F := Lib.hid (FIN.out _ _ m2 t3 m3)
              clear m2 t3 m3
              go_wp2
              go_meet
              exact ⟨by rw [E.out], F.out.1, F.out.2⟩
      case rest =>
        obtain ⟨rfl, hS2, m2⟩ := hcut
        generalize wc = wz at *
        have A2 := HA1.out.mod m2 (by simpa using n7.2)
        have z0 := A2.cell 0 (by omega)
        have z1 := A2.cell 1 (by omega)
        have z2 := A2.cell 2 (by omega)
        have z3 := A2.cell 3 (by omega)
        simp only [holdF, if_true, if_false, Nat.reduceEqDiff] at z0 z1 z2 z3
        have S2 := Lib.hid hS2
        have M2 := Lib.hid (M1.out.nil.trans (m2.mono (T := [sv, rT]) (by simp)))
        have hszz := M2.out.size
        have hzl : wr.heap.size < wz.heap.size := A2.lt
        have HA2 := Lib.hid A2
        clear KS KSM KSR FR PU hS2 m2 A2
        cases q with
        | false =>
          have L2 := own_mod HI.out.l M2.out (fun q hq e => by have := (own_lt' HI.out.l q hq).1; simp at e; omega)
          rw [← HSTT.out] at L2
          have HO := Lib.hid (own_mod L2 ((Mod.refl [] wz).alloc (.cells #[.int .i64 h.1, .int .i64 h.2.1, .int .i64 h.2.2.1, .int .i64 h.2.2.2] 39)) (fun _ _ => by simp))
          have HN := Lib.hid (hnews_at wz h)
          clear L2
          go_wp2_with (at_builtin; refine app1 w.heap.size 31 39 (.agg #[.int .i64 0, .int .i64 0, .int .i64 0, .int .i64 0]) 4 32 Tryd.underlying31 info_hold rfl (by omega) (by omega) rfl _ _ rfl u4 _ _ rfl HO.out wz.heap.size (hcell h) rfl rfl HN.out (by simp [hcell, Value.oneCell']) (by omega) (by have := HI.out.m.size; simp; omega) ?_; intro g1 cap1 w3 ho2 hm2 hgg hbg)
          have FIN := Lib.hid (HI.out.toLeft HS.out HH.out (by rw [← HSTT.out]; exact HQ.out.symm) (by have := S2.out; rw [HT'.out, okT_no HQ.out.symm, HLS.out, HSTT.out] at this; exact this.mod0 ((Mod.refl [] wz).alloc _)) (M2.out.alloc _) (by rw [← HSTT.out]; exact ho2) hm2 (fun q hq => by
            simp [Value.ownBlock] at hq
            subst hq
            exact hgg.imp id (fun e => by rw [e]; exact Nat.le_refl _)))
          clear ho2 hm2 hgg hbg
          go_roundw
          case rel => exact ⟨k + 1, by omega, by go_num, FIN.out⟩
          case measure => simp [intOf]; omega
        | true =>
          have hlsM : ls < 1099511627776 := by
            have := HQ.out.symm
            unfold srvOk at this
            simp only [Bool.and_eq_true, decide_eq_true_eq] at this
            have h1 := this.1
            rw [← HLS.out] at h1
            unfold maxS at h1
            exact h1
          have c3z := S2.out.c3
          have f3z := S2.out.arr.free 3
          simp only at c3z
          obtain ⟨nl, hnl⟩ : ∃ nl : Nat, nl = ls + 1 := ⟨_, rfl⟩
          have eN : IntKind.i64.wrap ((ls : Int) + 1) = (nl : Int) := by rw [hnl, IntKind.wrap_i64]; omega
          have HNL := Lib.hid hnl
          obtain ⟨w5, hw5⟩ : ∃ w5, w5 = wz.setCell ⟨sv, 3, none⟩ (.int .i64 nl) := ⟨_, rfl⟩
          have HW5 := Lib.hid hw5
          have m5 : Mod [sv] wz w5 := by rw [hw5]; exact (Mod.refl _ _).setCell (.inl (by simp)) _
          have s5 : RSv w5 (u4.ownBlock.toList ++ u3.ownBlock.toList ++ X) N0 sv rT bB gT gS gD cap gy cy (.slice (some ⟨g, 0, none⟩) x.wl.length cap0) { x with t := T', last := nl } := by
            rw [hw5]
            exact RSv.setV (l := x.wl) (n := nl) S2.out S2.out.wt S2.out.wx ⟨by show nl ≤ maxS; rw [hnl]; unfold maxS; omega, HS.out.inv.wl, HS.out.inv.len, HS.out.inv.one, HS.out.inv.by1⟩ (fun j hj => by
              match j, hj with
              | 0, _ | 1, _ | 2, _ | 3, _ | 4, _ => rfl)
          have S5 := Lib.hid s5
          have A5 := HA2.out.mod m5 (by simpa using n7.1)
          have M5 := Lib.hid (M2.out.trans (m5.mono (T := [sv, rT]) (by simp)))
          have c35 : w5.cell? ⟨sv, 3, none⟩ = some (.int .i64 nl) := s5.c3
          have q0 := A5.cell 0 (by omega)
          have q1 := A5.cell 1 (by omega)
          have q2 := A5.cell 2 (by omega)
          have q3 := A5.cell 3 (by omega)
          simp only [holdF, if_true, if_false, Nat.reduceEqDiff] at q0 q1 q2 q3
          have KS := Lib.hid (And.intro c35 (And.intro q0 (And.intro q1 (And.intro q2 q3))))
          have G5 := own_mod HI.out.g M5.out (fun q hq e => by have := (own_lt' HI.out.g q hq).1; simp at e; omega)
          rw [← HSTT.out] at G5
          have n8 : sv ∉ u3.ownBlock.toList ∧ wr.heap.size ∉ u3.ownBlock.toList := ⟨own_notArr G5 S5.out.arr (by decide), own_notArr G5 A5 (by decide)⟩
          have mA : Mod [] w5.drew (w5.drew.alloc (.cells #[.int .i64 nl, .int .i64 h.1, .int .i64 h.2.1, .int .i64 h.2.2.1, .int .i64 h.2.2.2] 105)) := (Mod.refl _ _).alloc _
          have KSA := Lib.hid (fun w' (m : Mod [] w5.drew w') => And.intro (m.cell' KS.out.1 (by simp)) (And.intro (m.cell' KS.out.2.1 (by simp)) (And.intro (m.cell' KS.out.2.2.1 (by simp)) (And.intro (m.cell' KS.out.2.2.2.1 (by simp)) (m.cell' KS.out.2.2.2.2 (by simp))))))
          have KSG := Lib.hid (fun w0 w' (m0 : Mod [] w5.drew w0) (m : Mod u3.ownBlock.toList w0 w') => And.intro (m.cell' (KSA.out w0 m0).1 n8.1) (And.intro (m.cell' (KSA.out w0 m0).2.1 n8.2) (And.intro (m.cell' (KSA.out w0 m0).2.2.1 n8.2) (And.intro (m.cell' (KSA.out w0 m0).2.2.2.1 n8.2) (m.cell' (KSA.out w0 m0).2.2.2.2 n8.2)))))
          have HMA := Lib.hid mA
          have HO := Lib.hid (own_mod G5 ((Mod.refl [] w5).drew.trans mA) (fun _ _ => by simp))
          have HN := Lib.hid (gnews_r w5.drew (nl, h))
          obtain ⟨gi, hi, hz, hz1, hz2⟩ := info_parts info_rgrant
          have hml : st.out.length + 1 ≤ maxLen := by unfold maxLen; omega
          have hbase : w.heap.size ≤ (w5.drew.alloc (.cells #[.int .i64 nl, .int .i64 h.1, .int .i64 h.2.1, .int .i64 h.2.2.1, .int .i64 h.2.2.2] 105)).heap.size := by
            have := HI.out.m.size; have := M5.out.size; have := mA.size; have h7 : w5.drew.heap.size = w5.heap.size := rfl; omega
          clear mA G5 c35 q0 q1 q2 q3 hnl hw5 m5 s5 A5
          go_upto_region 9 with (fail)
          rw [← HW5.out]
          first
            | (go_region_held3 (fun w' => w'.cell? ⟨sv, 3, none⟩ = some (.int .i64 nl) ∧ w'.cell? ⟨wr.heap.size, 0, none⟩ = some (.int .i64 h.1) ∧ w'.cell? ⟨wr.heap.size, 1, none⟩ = some (.int .i64 h.2.1) ∧ w'.cell? ⟨wr.heap.size, 2, none⟩ = some (.int .i64 h.2.2.1) ∧ w'.cell? ⟨wr.heap.size, 3, none⟩ = some (.int .i64 h.2.2.2))
                (first | exact KS.out | exact KSA.out _ HMA.out | exact KSG.out _ _ HMA.out (by assumption))
                ((refine step_append_lies _ (by rfl) _ _ 55 (by rfl) w.heap.size 105 gi (.agg #[.int .i64 0, .int .i64 0, .int .i64 0, .int .i64 0, .int .i64 0]) 5 40 Tryd.underlying55 hi hz hz1 hz2 rfl (by omega) u3 _ _ (by rfl) HO.out ⟨w5.heap.size, 0, none⟩ 1 1 (gcell (nl, h)) (by rfl) rfl HN.out (by simp [gcell, Value.oneCell']) (by omega) hml (by omega) hbase (w5.heap.size + 1) (by simp) ?_; intro g1 cap1 w6 ho6 hm6 hg6 hlt6; have m6 := mod_grown hm6)))
            | fail
          have FIN := Lib.hid (HI.out.toOut HS.out HH.out (by rw [← HSTT.out]; exact HQ.out.symm) (T' := T') (by rw [HT'.out, okT_put (by
              have e1 := HQ.out.symm
              have e2 := e1
              unfold srvOk at e1
              simp only [Bool.and_eq_true, decide_eq_true_eq] at e1
              rw [e2, decide_eq_true e1.2.2]), HSTT.out]) (w2 := w5.drew.alloc (.cells #[.int .i64 nl, .int .i64 h.1, .int .i64 h.2.1, .int .i64 h.2.2.1, .int .i64 h.2.2.2] 105)) (by
              have := S5.out.mod0 ((Mod.refl [] w5).drew.trans HMA.out)
              have e : nl = (x.upto k).last + 1 := by rw [HNL.out, HLS.out, HSTT.out]
              rw [← e]
              exact this) (M5.out.trans ((Mod.refl [] w5).drew.trans HMA.out).nil) (by
              rw [← HSTT.out, ← HLS.out, ← HNL.out]
              exact ho6) m6 (fun q hq => by
              simp [Value.ownBlock] at hq
              subst hq
              exact hg6.imp id (fun e => by rw [e]; simp)))
          clear ho6 hm6 m6 hg6 hlt6
          go_wp2
          go_roundw
          case rel => exact ⟨k + 1, by omega, by go_num, FIN.out⟩
          case measure => simp [intOf]; omega
    · obtain rfl : k = x.wl.length := by omega
      have i1 : ¬ (x.wl.length : Int) < (x.wl.length : Int) := by omega
      have f2r := hI.s.arr.free 2
      obtain ⟨p5, c5, rfl⟩ := own_len hI.l
      obtain ⟨p6, c6, rfl⟩ := own_len hI.g
      have FIN := Lib.hid (rsrv_end HS.out HX.out hI rfl)
      clear hI
      go_wp2
      go_ret
      exact FIN.out
end Go.Proofs.YtijjbkkcienfgaaDoor.Rf
namespace Go.Proofs.YtijjbkkcienfgaaDoor.Rf
open Go.RowKit
set_option linter.unusedVariables false
set_option linter.unusedSimpArgs false
attribute [local go_sem ↓] Go.wp_at_zero Go.wp_at_succ

/-- What a command comes to at the document's side. -/
def RDoP (w : World) (X : List Nat) (N0 sv rT bB gT gS gD cap gy cy : Nat) (y : GS × GA) (e : Ending) (w' : World) : Prop :=
  ∃ gv rv dv v', e = .returned (.agg #[.int .i64 y.2.e, .int .i64 y.2.n, gv, rv, dv]) ∧ w'.ownsRow 0 105 5 gv y.2.g.length (gcells y.2.g) ∧
    w'.ownsRow 0 39 4 rv y.2.r.length (hcells y.2.r) ∧ w'.ownsRow 0 3 1 dv y.2.z.length (intsOf y.2.z) ∧ RSv w' X N0 sv rT bB gT gS gD cap gy cy v' y.1 ∧ Mod (RbL sv rT bB gT gS gD gy) w w'
theorem rcmd_new (w : World) (T : TypeId) (c : CmdT) : Arr (w.alloc (.cells c.arr T)) w.heap.size T 9 c.f := cmd_new w T c
theorem rans_new (w : World) (e n : Int) (gv rv dv : Value) : Arr (w.alloc (.cells #[.int .i64 e, .int .i64 n, gv, rv, dv] 57)) w.heap.size 57 5 (ansF e n gv rv dv) := Arr.new' w _ _ 5 _ rfl (fun i hi => by
  match i, hi with
  | 0, _ | 1, _ | 2, _ | 3, _ | 4, _ => rfl)
theorem rans_load {w : World} {b : Nat} {e n : Int} {g r d : Value} (A : Arr w b 57 5 (ansF e n g r d)) : (loadVar 57 ⟨b, 0, none⟩).run Tryd.prog w = .ok (.agg #[.int .i64 e, .int .i64 n, g, r, d]) w :=
  run_loadVar_mid w b 0 _ [.int .i64 e, .int .i64 n, g, r, d] _ (fun j v hv => by
    rw [Nat.zero_add]
    match j with
    | 0 => simp at hv; subst hv; exact A.cell 0 (by omega)
    | 1 => simp at hv; subst hv; exact A.cell 1 (by omega)
    | 2 => simp at hv; subst hv; exact A.cell 2 (by omega)
    | 3 => simp at hv; subst hv; exact A.cell 3 (by omega)
    | 4 => simp at hv; subst hv; exact A.cell 4 (by omega)
    | j + 5 => simp at hv) Tryd.underlying57 rfl (by kernel_rfl)
theorem rans_res {fn : Func} {p : Tmp} (h : fn.results = #[.cell p 57]) {tmps : Array Value} {w : World} {b : Nat} (hb : tmps.getD p undef = .pointer (some ⟨b, 0, none⟩)) {e n : Int} {g r d : Value} (A : Arr w b 57 5 (ansF e n g r d)) :
    (results fn tmps).run Tryd.prog w = .ok (.agg #[.int .i64 e, .int .i64 n, g, r, d]) w := by
  have hp : (asAddr (.pointer (some ⟨b, 0, none⟩))).run Tryd.prog w = .ok ⟨b, 0, none⟩ w := rfl
  rw [results_cell1 h, hb, hp]
  simp only [Result.andThen]
  exact rans_load A
theorem rans_facts {w : World} {b : Nat} {e n : Int} {g r d : Value} (Z : Arr w b 57 5 (ansF e n g r d)) :
    w.cell? ⟨b, 0, none⟩ = some (.int .i64 e) ∧ w.cell? ⟨b, 1, none⟩ = some (.int .i64 n) ∧ w.cell? ⟨b, 2, none⟩ = some g ∧ w.cell? ⟨b, 3, none⟩ = some r ∧ w.cell? ⟨b, 4, none⟩ = some d ∧
    w.frozen? ⟨b, 0, none⟩ = false ∧ w.frozen? ⟨b, 1, none⟩ = false ∧ w.frozen? ⟨b, 2, none⟩ = false ∧ w.frozen? ⟨b, 3, none⟩ = false ∧ w.frozen? ⟨b, 4, none⟩ = false :=
  ⟨Z.cell 0 (by omega), Z.cell 1 (by omega), Z.cell 2 (by omega), Z.cell 3 (by omega), Z.cell 4 (by omega), Z.free 0, Z.free 1, Z.free 2, Z.free 3, Z.free 4⟩
section
variable {w w2 wx wy : World} {X : List Nat} {N0 sv rT bB gT gS gD cap gy cy : Nat} {v v' : Value} {x : GS} {y : GS × GA} {f : Nat → Value} {rb : Nat}
/-- A block of an answer is none of the service's. -/
theorem RSv.ans (hS : RSv w2 X N0 sv rT bB gT gS gD cap gy cy v x) (Z : Arr w2 rb 57 5 f) (m : Mod [rb] w2 wx) : RSv wx X N0 sv rT bB gT gS gD cap gy cy v x := by
  obtain ⟨g, a⟩ := rtab_arr hS.tb
  have one : ∀ {k : Nat}, k ≠ rb → k ∉ [rb] := fun h e => h (List.mem_singleton.1 e)
  refine ⟨hS.arr.mod m (one (arr_ne hS.arr Z (by decide))), hS.tb.mod m (one (arr_ne a Z (by decide))) (fun z hz => .inr (.inr ?_)), hS.bk.mod m (one (arr_ne hS.bk.arr Z (by decide))) (one (arr_ne hS.bk.rT Z (by decide))) (one (arr_ne hS.bk.rS Z (by decide))) (one (arr_ne hS.bk.rD Z (by decide))),
    own_mod hS.wt m (fun k hk e => own_notArr hS.wt Z (by decide) (by have := List.mem_singleton.1 e; subst this; simpa using hk)), hS.wx, hS.by'.mod m (one (arr_ne hS.by' Z (by decide))), hS.n1, hS.n2, hS.cy8, hS.inv, hS.ap⟩
  have e := List.mem_singleton.1 hz
  subst e
  obtain ⟨cs, e, _⟩ := Z
  exact ⟨cs, _, e, by decide⟩
theorem rdo_end {gv rv dv : Value} (hrb : w.heap.size ≤ rb) (hS : RSv w2 X N0 sv rT bB gT gS gD cap gy cy v' y.1) (m : Mod (RbL sv rT bB gT gS gD gy) w w2)
    (Z : Arr w2 rb 57 5 f) (hg : w2.ownsRow 0 105 5 gv y.2.g.length (gcells y.2.g)) (hr : w2.ownsRow 0 39 4 rv y.2.r.length (hcells y.2.r)) (hd : w2.ownsRow 0 3 1 dv y.2.z.length (intsOf y.2.z)) :
    RDoP w X N0 sv rT bB gT gS gD cap gy cy y (.returned (.agg #[.int .i64 y.2.e, .int .i64 y.2.n, gv, rv, dv])) (put5 w2 rb (.int .i64 y.2.e) (.int .i64 y.2.n) gv rv dv) := by
  have m2 := put5_mod w2 rb (.int .i64 y.2.e) (.int .i64 y.2.n) gv rv dv
  refine ⟨gv, rv, dv, v', rfl, ?_, ?_, ?_, hS.ans Z m2, m.fresh m2 (fun q hq => .inr (by have := List.mem_singleton.1 hq; omega))⟩
  · exact own_mod hg m2 (fun q hq e => own_notArr hg Z (by decide) (by simp at e; subst e; simpa using hq))
  · exact own_mod hr m2 (fun q hq e => own_notArr hr Z (by decide) (by simp at e; subst e; simpa using hq))
  · exact own_mod hd m2 (fun q hq e => own_notArr hd Z (by decide) (by simp at e; subst e; simpa using hq))
theorem rdo_err {e : Int} (hrb : w.heap.size ≤ rb) (hS : RSv w2 X N0 sv rT bB gT gS gD cap gy cy v' x) (hy : y = (x, .err e)) (m : Mod (RbL sv rT bB gT gS gD gy) w w2) (Z : Arr w2 rb 57 5 f) :
    RDoP w X N0 sv rT bB gT gS gD cap gy cy y (.returned (.agg #[.int .i64 e, .int .i64 0, .slice none 0 0, .slice none 0 0, .slice none 0 0])) (put5 w2 rb (.int .i64 e) (.int .i64 0) (.slice none 0 0) (.slice none 0 0) (.slice none 0 0)) := by
  subst hy
  exact rdo_end (y := (x, .err e)) hrb hS m Z (own_nil _ _ _ _) (own_nil _ _ _ _) (own_nil _ _ _ _)
end
/-- Behind the first steps of asking: what stands. -/
structure RAsk (w : World) (X : List Nat) (N0 sv rT bB gT gS gD cap gy cy : Nat) (v : Value) (x : GS) (c : CmdT) (wx : World) : Prop where
  s : RSv wx X N0 sv rT bB gT gS gD cap gy cy v x
  m : Mod (RbL sv rT bB gT gS gD gy) w wx
  z : Arr wx (w.heap.size + 1) 57 5 (ansF 0 0 (.slice none 0 0) (.slice none 0 0) (.slice none 0 0))
  a : Arr wx w.heap.size 59 9 c.f
  h : Arr wx (w.heap.size + 2) 39 4 (askH c)
section
variable {w w2 wx wy : World} {X : List Nat} {N0 sv rT bB gT gS gD cap gy cy : Nat} {v v' : Value} {x x' : GS} {y : GS × GA} {c : CmdT}
theorem RAsk.next (h : RAsk w X N0 sv rT bB gT gS gD cap gy cy v x c wx) (m : Mod [] wx wy) : RAsk w X N0 sv rT bB gT gS gD cap gy cy v x c wy :=
  ⟨h.s.mod0 m, h.m.trans m.nil, h.z.mod m (by simp), h.a.mod m (by simp), h.h.mod m (by simp)⟩
theorem RAsk.own (h : RAsk w X N0 sv rT bB gT gS gD cap gy cy v x c wx) (h0 : ∀ z, z ∈ RbL sv rT bB gT gS gD gy → z < w.heap.size) (s : RSv wy X N0 sv rT bB gT gS gD cap gy cy v' x') {S : List Nat} (m : Mod S wx wy) (hS : ∀ z, z ∈ S → z ∈ RbL sv rT bB gT gS gD gy) : RAsk w X N0 sv rT bB gT gS gD cap gy cy v' x' c wy := by
  have key : ∀ k, w.heap.size ≤ k → k ∉ S := fun k hk e => by have := h0 k (hS k e); omega
  exact ⟨s, h.m.trans (m.mono hS), h.z.mod m (key _ (by omega)), h.a.mod m (key _ (by omega)), h.h.mod m (key _ (by omega))⟩
theorem rask_start (c : CmdT) (hS : RSv w X N0 sv rT bB gT gS gD cap gy cy v x) :
    RAsk w X N0 sv rT bB gT gS gD cap gy cy v x c (((w.alloc (.cells c.arr 59)).alloc (.cells zeroAns 57)).alloc (.cells #[.int .i64 c.a, .int .i64 c.b, .int .i64 c.c, .int .i64 c.m] 39)) := by
  have A1 := rcmd_new w 59 c
  have Z1 := rans_new (w.alloc (.cells c.arr 59)) 0 0 (.slice none 0 0) (.slice none 0 0) (.slice none 0 0)
  have e1 : (w.alloc (.cells c.arr 59)).heap.size = w.heap.size + 1 := by simp
  rw [e1] at Z1
  have m : Mod [] w (((w.alloc (.cells c.arr 59)).alloc (.cells zeroAns 57)).alloc (.cells #[.int .i64 c.a, .int .i64 c.b, .int .i64 c.c, .int .i64 c.m] 39)) := (((Mod.refl _ _).alloc _).alloc _).alloc _
  have H := Arr.new' ((w.alloc (.cells c.arr 59)).alloc (.cells zeroAns 57)) #[.int .i64 c.a, .int .i64 c.b, .int .i64 c.c, .int .i64 c.m] 39 4 (askH c) rfl (fun i hi => by
    match i, hi with
    | 0, _ | 1, _ | 2, _ | 3, _ => rfl)
  have e : ((w.alloc (.cells c.arr 59)).alloc (.cells zeroAns 57)).heap.size = w.heap.size + 2 := by simp
  rw [e] at H
  exact ⟨hS.mod0 m, m.nil, Z1.alloc _, (A1.alloc _).alloc _, H⟩
theorem RAsk.err {e : Int} (h : RAsk w X N0 sv rT bB gT gS gD cap gy cy v x c wx) (hy : y = (x, .err e)) :
    RDoP w X N0 sv rT bB gT gS gD cap gy cy y (.returned (.agg #[.int .i64 e, .int .i64 0, .slice none 0 0, .slice none 0 0, .slice none 0 0])) (put5 wx (w.heap.size + 1) (.int .i64 e) (.int .i64 0) (.slice none 0 0) (.slice none 0 0) (.slice none 0 0)) :=
  rdo_err (by omega) h.s hy h.m h.z
end
theorem hold_of {c : CmdT} (k1 : inC8 c.c = true ∧ okM c.m = true) (k2 : blk c.a c.b = true) : ((c.hold.1 : Nat) : Int) = c.a ∧ ((c.hold.2.1 : Nat) : Int) = c.b ∧ ((c.hold.2.2.1 : Nat) : Int) = c.c ∧ ((c.hold.2.2.2 : Nat) : Int) = c.m := by
  have kb : 0 ≤ c.a ∧ c.a < c.b ∧ c.b ≤ 256 := by
    have := k2
    simp only [blk, Bool.and_eq_true, decide_eq_true_eq] at this
    omega
  have kc : 0 ≤ c.c ∧ c.c < 8 := inC8_iff.1 k1.1
  have km : c.m = 1 ∨ c.m = 2 := by
    have := k1.2
    simpa [okM] using this
  refine ⟨?_, ?_, ?_, ?_⟩
  · show ((c.a.toNat : Nat) : Int) = c.a; omega
  · show ((c.b.toNat : Nat) : Int) = c.b; omega
  · show ((c.c.toNat : Nat) : Int) = c.c; omega
  · show ((c.m.toNat : Nat) : Int) = c.m; omega
/-- A row of the whole queue. -/
def Grew (w wx : World) (x : GS) (s : Value) : Prop := Mod [] w wx ∧ wx.ownsRow w.heap.size 39 4 s x.wl.length (hcells x.wl)
theorem hnews_j (w : World) (c : CmdT) : ∀ (j : Nat) u, [Value.int .i64 c.a, .int .i64 c.b, .int .i64 c.c, .int .i64 c.m][j]? = some u → (w.alloc (.cells #[.int .i64 c.a, .int .i64 c.b, .int .i64 c.c, .int .i64 c.m] 39)).cell? ⟨w.heap.size, j, none⟩ = some u := by
  intro j u hj
  match j with
  | 0 | 1 | 2 | 3 => simp at hj; subst hj; simp
  | j + 4 => simp at hj
set_option maxRecDepth 100000 in
set_option maxHeartbeats 8000000 in
theorem rask_calls (w : World) (X : List Nat) (N0 sv rT bB gT gS gD cap gy cy : Nat) (v : Value) (x : GS) (c : CmdT) (hS : RSv w X N0 sv rT bB gT gS gD cap gy cy v x) (hX : ∀ z, z ∈ X → z < w.heap.size) :
    Calls Tryd.prog 40 #[.pointer (some ⟨sv, 0, none⟩), .agg c.arr] w (RDoP w X N0 sv rT bB gT gS gD cap gy cy (x.ask c)) := by
  obtain ⟨w1, hw1⟩ : ∃ w1, w1 = ((w.alloc (.cells c.arr 59)).alloc (.cells zeroAns 57)).alloc (.cells #[.int .i64 c.a, .int .i64 c.b, .int .i64 c.c, .int .i64 c.m] 39) := ⟨_, rfl⟩
  have R1 := rask_start c hS
  rw [← hw1] at R1
  have HR1 := Lib.hid R1
  have HW1 := Lib.hid hw1
  have HLT := Lib.hid hS.lt
  have HX := Lib.hid hX
  have HIV := Lib.hid hS.inv
  have HNE := Lib.hid hS.ne
  have h1 := hS.arr.lt
  have hsz := R1.h.lt
  have y1 := R1.a.cell 1 (by omega)
  have y5 := R1.a.cell 5 (by omega)
  have y6 := R1.a.cell 6 (by omega)
  have y7 := R1.a.cell 7 (by omega)
  simp only [CmdT.f, if_true, if_false, Nat.reduceEqDiff] at y1 y5 y6 y7
  obtain ⟨g0, g1, g2, g3, g4, g5, g6, g7, g8, g9⟩ := rans_facts R1.z
  have CC := Lib.hid (rclient_calls w1 c.c)
  obtain ⟨q1, hq1⟩ : ∃ q : Bool, q = (!inC8 c.c || !okM c.m) := ⟨_, rfl⟩
  have HQ1 := Lib.hid hq1
  generalize hib : inC8 c.c = ib at *
  have HIB := Lib.hid hib
  clear hw1 R1 hS hq1 hib hX
  unfold zeroAns at HW1
  unfold CmdT.arr at HW1 ⊢
  go_enter Tryd.func40, Tryd.ntmps40
  go_upto_region 2 with (fail)
  rw [← HW1.out] at *
  go_cut [29] (fun s wx => s = .bool q1 ∧ wx = w1)
  case first =>
    cases ib with
    | false =>
      have e := Lib.hid (show q1 = true by rw [HQ1.out]; rfl)
      go_wp2_with (go_at_call 18; refine CC.out.mono ?_; rintro e w9 ⟨rfl, rfl⟩)
      go_meet
      exact ⟨by rw [e.out], rfl⟩
    | true =>
      by_cases m1 : c.m = 1
      · have e := Lib.hid (show q1 = false by rw [HQ1.out]; simp [okM, m1])
        have m1' : (c.m != 1) = false := by simpa using m1
        clear m1
        go_wp2_with (go_at_call 18; refine CC.out.mono ?_; rintro e w9 ⟨rfl, rfl⟩)
        go_meet
        exact ⟨by rw [e.out], rfl⟩
      · have m1' : (c.m != 1) = true := by simpa using m1
        by_cases m2 : c.m = 2
        · have e := Lib.hid (show q1 = false by rw [HQ1.out]; simp [okM, m2])
          have m2' : (c.m != 2) = false := by simpa using m2
          clear m1 m2
          go_wp2_with (go_at_call 18; refine CC.out.mono ?_; rintro e w9 ⟨rfl, rfl⟩)
          go_meet
          exact ⟨by rw [e.out], rfl⟩
        · have e := Lib.hid (show q1 = true by rw [HQ1.out]; simp [okM, m1, m2])
          have m2' : (c.m != 2) = true := by simpa using m2
          clear m1 m2
          go_wp2_with (go_at_call 18; refine CC.out.mono ?_; rintro e w9 ⟨rfl, rfl⟩)
          go_meet
          exact ⟨by rw [e.out], rfl⟩
  case rest =>
    obtain ⟨rfl, hwc⟩ := hcut
    subst wc
    cases q1 with
    | true =>
      have E := Lib.hid (show x.ask c = (x, .err 1) by
        unfold GS.ask
        rw [if_pos]
        have := HQ1.out.symm
        rw [← HIB.out] at this
        simpa using this)
      go_wp2
      (try simp only [Exit.inBlock, Exit.then])
      exact bodyPost_ret (rans_res rfl rfl (put5_arr HR1.out.z _ _ _ _ _)) rfl (HR1.out.err E.out)
    | false =>
      have k1 : inC8 c.c = true ∧ okM c.m = true := by
        have := HQ1.out.symm
        rw [← HIB.out] at this
        simpa using this
      have K1 := Lib.hid k1
      have E1 := Lib.hid (show ∀ z, (if inC8 c.c = false ∨ okM c.m = false then (x, GA.err 1) else z) = z from fun z => if_neg (by simp [k1.1, k1.2]))
      have BL := Lib.hid (blocks_calls w1 c.a c.b)
      obtain ⟨q2, hq2⟩ : ∃ q : Bool, q = blk c.a c.b := ⟨_, rfl⟩
      rw [← hq2] at BL
      have HQ2 := Lib.hid hq2
      clear hq2 k1
      go_wp2_with fail
      refine BL.out.mono ?_
      rintro e w2 ⟨rfl, hw2⟩
      have m2 : Mod [] w1 w2 := by rw [← hw2]; exact (Mod.refl _ _).alloc _
      have R2 := Lib.hid (HR1.out.next m2)
      clear hw2 m2 y1 y5 y6 y7 g0 g1 g2 g3 g4 g5 g6 g7 g8 g9 CC
      cases q2 with
      | false =>
        obtain ⟨g0, g1, g2, g3, g4, g5, g6, g7, g8, g9⟩ := rans_facts R2.out.z
        have E := Lib.hid (show x.ask c = (x, .err 71) by
          unfold GS.ask
          rw [E1.out, if_pos HQ2.out.symm])
        go_wp2
        (try simp only [Exit.inBlock, Exit.then])
        exact bodyPost_ret (rans_res rfl rfl (put5_arr R2.out.z _ _ _ _ _)) rfl (R2.out.err E.out)
      | true =>
        have E2 := Lib.hid (show ∀ z, (if blk c.a c.b = false then (x, GA.err 71) else z) = z from fun z => if_neg (by rw [← HQ2.out]; simp))
        have KH := Lib.hid (hold_of K1.out HQ2.out.symm)
        have LV := Lib.hid (rlives_calls w2 sv bB gT gS gD cap x.u x.s x.d c.c R2.out.s.c1 R2.out.s.bk)
        generalize hlb : livesB x.u x.d c.c = lb at *
        have HLB := Lib.hid hlb
        clear hlb
        have y1 := R2.out.a.cell 1 (by omega)
        simp only [CmdT.f, if_true, if_false, Nat.reduceEqDiff] at y1
        go_wp2_with fail
        refine LV.out.mono ?_
        rintro e w3 ⟨rfl, rfl⟩
        cases lb with
        | false =>
          obtain ⟨g0, g1, g2, g3, g4, g5, g6, g7, g8, g9⟩ := rans_facts R2.out.z
          have E := Lib.hid (show x.ask c = (x, .err 200) by
            unfold GS.ask
            rw [E1.out, E2.out, if_pos HLB.out])
          go_wp2
          (try simp only [Exit.inBlock, Exit.then])
          exact bodyPost_ret (rans_res rfl rfl (put5_arr R2.out.z _ _ _ _ _)) rfl (R2.out.err E.out)
        | true =>
          have E3 := Lib.hid (show ∀ z, (if livesB x.u x.d c.c = false then (x, GA.err 200) else z) = z from fun z => if_neg (by rw [HLB.out]; simp))
          obtain ⟨p0, cap0, rfl, hcap1, hcap2, hcell⟩ := own_holds' R2.out.s.wt
          have HC := Lib.hid hcell
          clear hcell y1
          go_wp2
          go_loopw [6] (fun i wr => ∃ k : Nat, k ≤ x.wl.length ∧ i = .int .i64 k ∧ Mod [] w2 wr ∧ Hid (((x.wl.take k).any fun o => decide ((o.2.2.1 : Int) = c.c)) = false)) (fun i _ => x.wl.length - (intOf i).toNat)
          case atStart => exact ⟨0, Nat.zero_le _, rfl, Mod.refl _ _, Lib.hid rfl⟩
          case round =>
            obtain ⟨k, hk, rfl, hM, HA⟩ := hrel
            have R3 := Lib.hid (R2.out.next hM)
            have c2r := R3.out.s.c2
            have hsr : sv < wr.heap.size := R3.out.s.arr.lt
            by_cases hlt : k < x.wl.length
            · obtain ⟨o, hy⟩ : ∃ o, x.wl[k]? = some o := ⟨_, List.getElem?_eq_getElem hlt⟩
              obtain ⟨g, rfl, hg0, hg1, hx⟩ := HC.out (by omega)
              obtain ⟨z0, z1, z2, z3⟩ := hx k o hy
              replace z2 := hM.cell' z2 (by simp)
              have AT := Lib.hid (any_take (fun o => decide ((o.2.2.1 : Int) = c.c)) hy)
              have i0 : (0 : Int) ≤ (k : Int) := by omega
              have i1 : (k : Int) < (x.wl.length : Int) := by omega
              have y1 := R3.out.a.cell 1 (by omega)
              simp only [CmdT.f, if_true, if_false, Nat.reduceEqDiff] at y1
              have HM := Lib.hid hM
              clear hx hM z0 z1 z3
              by_cases he : (o.2.2.1 : Int) = c.c
              · have he1 : ((o.2.2.1 : Int) == c.c) = true := by simpa using he
                have E := Lib.hid (show x.ask c = (x, .err 4) by
                  unfold GS.ask
                  rw [E1.out, E2.out, E3.out, if_pos]
                  rw [List.any_eq_true]
                  exact ⟨o, List.mem_of_getElem? hy, by simpa using he⟩)
                clear he hy
                go_wp2
                go_quiet (fail)
                have R4 := Lib.hid (R3.out.next ((Mod.refl [] wr).drewN nq))
                obtain ⟨g0, g1, g2, g3, g4, g5, g6, g7, g8, g9⟩ := rans_facts R4.out.z
                clear c2r z2 y1
                generalize wr.drewN nq = wz at *
                go_wp2
                (try simp only [Exit.inBlock, Exit.then])
                exact bodyPost_ret (rans_res rfl rfl (put5_arr R4.out.z _ _ _ _ _)) rfl (R4.out.err E.out)
              · have he1 : ((o.2.2.1 : Int) == c.c) = false := by simpa using he
                have HA2 := Lib.hid (show ((x.wl.take (k + 1)).any fun o => decide ((o.2.2.1 : Int) = c.c)) = false by
                  rw [AT.out, HA.out]
                  simpa using he)
                clear he hy
                go_wp2
                go_quiet (fail)
                go_wp2
                go_roundw
                case rel => exact ⟨k + 1, by omega, by go_num, HM.out.drewN _, Lib.hid HA2.out⟩
                case measure => simp [intOf]; omega
            · obtain rfl : k = x.wl.length := by omega
              have hlt' : decide ((x.wl.length : Int) < (x.wl.length : Int)) = false := by simp
              have E4 := Lib.hid (show ∀ z, (if (x.wl.any fun o => decide ((o.2.2.1 : Int) = c.c)) = true then (x, GA.err 4) else z) = z from fun z => if_neg (by
                have := HA.out
                rw [List.take_length] at this
                rw [this]
                simp))
              have c3r := R3.out.s.c3
              obtain ⟨ls, hls⟩ : ∃ ls, ls = x.last := ⟨_, rfl⟩
              rw [← hls] at c3r
              have HLS := Lib.hid hls
              clear hM HA hls
              generalize wr = wl at *
              by_cases hfull : 1099511627776 ≤ ls
              · have hf1 : (1099511627776 : Int) ≤ (ls : Int) := by omega
                have E := Lib.hid (show x.ask c = (x, .err 6) by
                  unfold GS.ask
                  rw [E1.out, E2.out, E3.out, E4.out, if_pos (by rw [← HLS.out]; unfold maxS; exact hfull)])
                obtain ⟨g0, g1, g2, g3, g4, g5, g6, g7, g8, g9⟩ := rans_facts R3.out.z
                clear hfull
                go_wp2
                (try simp only [Exit.inBlock, Exit.then])
                exact bodyPost_ret (rans_res rfl rfl (put5_arr R3.out.z _ _ _ _ _)) rfl (R3.out.err E.out)
              · have hf1 : decide ((1099511627776 : Int) ≤ (ls : Int)) = false := decide_eq_false (by omega)
                have hf2 : decide (1099511627776 ≤ ls) = false := decide_eq_false hfull
                have E5 := Lib.hid (show ∀ z, (if maxS ≤ x.last then (x, GA.err 6) else z) = z from fun z => if_neg (by rw [← HLS.out]; unfold maxS; exact hfull))
                have HL1 := Lib.hid (show ls < 1099511627776 by omega)
                have KS := Lib.hid (And.intro R3.out.s.c0 (And.intro R3.out.s.c2 (And.intro (R3.out.h.cell 0 (by omega)) (And.intro (R3.out.h.cell 1 (by omega)) (And.intro (R3.out.h.cell 2 (by omega)) (R3.out.h.cell 3 (by omega)))))))
                simp only [askH, if_true, if_false, Nat.reduceEqDiff] at KS
                have KSM := Lib.hid (fun w' (m : Mod [] wl.drew w') => And.intro (m.cell' KS.out.1 (by simp)) (And.intro (m.cell' KS.out.2.1 (by simp)) (And.intro (m.cell' KS.out.2.2.1 (by simp)) (And.intro (m.cell' KS.out.2.2.2.1 (by simp)) (And.intro (m.cell' KS.out.2.2.2.2.1 (by simp)) (m.cell' KS.out.2.2.2.2.2 (by simp)))))))
                have FR := rfree_calls wl.drew X sv rT x.t c.hold (.slice p0 x.wl.length cap0) x.wl R3.out.s.c0 (R3.out.s.mod0 (Mod.refl [] wl).drew).tb (hs_own (R3.out.s.mod0 (Mod.refl [] wl).drew).wt)
                rw [KH.out.1, KH.out.2.1, KH.out.2.2.1, KH.out.2.2.2] at FR
                obtain ⟨fr, hfr⟩ : ∃ fr, fr = freeT x.t c.hold x.wl := ⟨_, rfl⟩
                rw [← hfr] at FR
                have HFR := Lib.hid hfr
                have HFC := Lib.hid FR
                clear hfr hfull FR hlt
                go_upto_region 15 with (fail)
                clear c2r c3r hlt'
                first
                  | (go_region_held3 (fun w' => w'.cell? ⟨sv, 0, none⟩ = some (.pointer (some ⟨rT, 0, none⟩)) ∧ w'.cell? ⟨sv, 2, none⟩ = some (.slice p0 x.wl.length cap0) ∧ w'.cell? ⟨w.heap.size + 2, 0, none⟩ = some (.int .i64 c.a) ∧ w'.cell? ⟨w.heap.size + 2, 1, none⟩ = some (.int .i64 c.b) ∧ w'.cell? ⟨w.heap.size + 2, 2, none⟩ = some (.int .i64 c.c) ∧ w'.cell? ⟨w.heap.size + 2, 3, none⟩ = some (.int .i64 c.m))
                      (first | exact KS.out | exact KSM.out _ (by assumption))
                      (first
                        | (go_at_call 71; (with_reducible refine HFC.out.mono ?_); rintro e w4 ⟨rfl, m4⟩)))
                  | fail
                have R4 := Lib.hid (R3.out.next (Mod.of_drew m4))
                clear m4 KS KSM HFC
                generalize w4 = wz at *
                have EPE := Lib.hid (show putEH x.t c.hold = putE x.t c.a c.b c.c c.m by unfold putEH; rw [KH.out.1, KH.out.2.1, KH.out.2.2.1, KH.out.2.2.2])
                have EPT := Lib.hid (show putTH x.t c.hold = putT x.t c.a c.b c.c c.m by unfold putTH; rw [KH.out.1, KH.out.2.1, KH.out.2.2.1, KH.out.2.2.2])
                cases fr with
                | true =>
                  have E6 := Lib.hid (show ∀ a b : GS × GA, (if freeT x.t c.hold x.wl = true then a else b) = a from fun a b => if_pos HFR.out.symm)
                  have KS := Lib.hid (And.intro R4.out.s.c0 (And.intro (R4.out.h.cell 0 (by omega)) (And.intro (R4.out.h.cell 1 (by omega)) (And.intro (R4.out.h.cell 2 (by omega)) (R4.out.h.cell 3 (by omega))))))
                  simp only [askH, if_true, if_false, Nat.reduceEqDiff] at KS
                  have nT : sv ≠ rT := HNE.out.1
                  have nH : w.heap.size + 2 ≠ rT := by have := HLT.out rT (by simp [RbL]); omega
                  have KSR := Lib.hid (fun w' (m : Mod [rT] wz.drew w') => And.intro (m.cell' KS.out.1 (by simpa using nT)) (And.intro (m.cell' KS.out.2.1 (by simpa using nH)) (And.intro (m.cell' KS.out.2.2.1 (by simpa using nH)) (And.intro (m.cell' KS.out.2.2.2.1 (by simpa using nH)) (m.cell' KS.out.2.2.2.2 (by simpa using nH))))))
                  obtain ⟨pe, hpe⟩ : ∃ pe, pe = putEH x.t c.hold := ⟨_, rfl⟩
                  have PU := Lib.hid ((rput_calls wz.drew X rT x.t c.a c.b c.c c.m (R4.out.s.mod0 (Mod.refl [] wz).drew).tb (fun z hz => by have := HX.out z hz; have := R4.out.m.size; show z < wz.heap.size; omega)).mono (R' := fun e w'' => e = .returned (.int .i64 pe) ∧ RTab w'' X rT (putTH x.t c.hold) ∧ Mod [rT] wz.drew w'') (fun e w'' k => by
                    obtain ⟨k1, k2, k3⟩ := k
                    exact ⟨by rw [k1, hpe, EPE.out], by rw [EPT.out]; exact k2, k3⟩))
                  have HPE := Lib.hid hpe
                  clear hpe nT nH
                  go_upto_region 16 with (fail)
                  first
                    | (go_region_held3 (fun w' => w'.cell? ⟨sv, 0, none⟩ = some (.pointer (some ⟨rT, 0, none⟩)) ∧ w'.cell? ⟨w.heap.size + 2, 0, none⟩ = some (.int .i64 c.a) ∧ w'.cell? ⟨w.heap.size + 2, 1, none⟩ = some (.int .i64 c.b) ∧ w'.cell? ⟨w.heap.size + 2, 2, none⟩ = some (.int .i64 c.c) ∧ w'.cell? ⟨w.heap.size + 2, 3, none⟩ = some (.int .i64 c.m))
                        (first | exact KS.out | exact KSR.out _ (by assumption))
                        (first
                          | (go_at_call 72; (with_reducible refine PU.out.mono ?_); rintro e w5 ⟨rfl, t5, m5⟩)))
                    | fail
                  have R5 := Lib.hid (R4.out.own HLT.out (RSv.setT (R4.out.s.mod0 (Mod.refl [] wz).drew) t5 m5) (Mod.of_drew m5) (fun z hz => by have := List.mem_singleton.1 hz; subst this; simp [RbL]))
                  clear t5 m5 KS KSR PU
                  by_cases hp : pe = 0
                  · subst hp
                    have E := Lib.hid (show x.ask c = ({ x with t := putTH x.t c.hold, last := x.last + 1 }, ⟨0, x.last + 1, [], [], []⟩) by
                      unfold GS.ask
                      rw [E1.out, E2.out, E3.out, E4.out, E5.out, E6.out, if_pos HPE.out.symm])
                    have c3 : w5.cell? ⟨sv, 3, none⟩ = some (.int .i64 ls) := by rw [HLS.out]; exact R5.out.s.c3
                    have f3 := R5.out.s.arr.free 3
                    obtain ⟨nl, hnl⟩ : ∃ nl : Nat, nl = ls + 1 := ⟨_, rfl⟩
                    have eN : IntKind.i64.wrap ((ls : Int) + 1) = (nl : Int) := by have := HL1.out; rw [hnl, IntKind.wrap_i64]; omega
                    obtain ⟨w6, hw6⟩ : ∃ w6, w6 = w5.setCell ⟨sv, 3, none⟩ (.int .i64 nl) := ⟨_, rfl⟩
                    have m6 : Mod [sv] w5 w6 := by rw [hw6]; exact (Mod.refl _ _).setCell (.inl (by simp)) _
                    have s6 : RSv w6 X N0 sv rT bB gT gS gD cap gy cy (.slice p0 x.wl.length cap0) { x with t := putTH x.t c.hold, last := nl } := by
                      rw [hw6]
                      exact RSv.setV (l := x.wl) (n := nl) R5.out.s R5.out.s.wt R5.out.s.wx ⟨by have := HL1.out; show nl ≤ maxS; rw [hnl]; unfold maxS; omega, HIV.out.wl, HIV.out.len, HIV.out.one, HIV.out.by1⟩ (fun j hj => by
                        match j, hj with
                        | 0, _ | 1, _ | 2, _ | 3, _ | 4, _ => rfl)
                    have R6 := Lib.hid (R5.out.own HLT.out s6 m6 (fun z hz => by have := List.mem_singleton.1 hz; subst this; simp [RbL]))
                    have c36 : w6.cell? ⟨sv, 3, none⟩ = some (.int .i64 nl) := s6.c3
                    have HW6 := Lib.hid hw6
                    have eNL : nl = x.last + 1 := by rw [hnl, HLS.out]
                    have HNL := Lib.hid eNL
                    have HNI := Lib.hid (show (x.last : Int) + 1 = (nl : Int) by omega)
                    obtain ⟨g0, g1, g2, g3, g4, g5, g6, g7, g8, g9⟩ := rans_facts R6.out.z
                    clear hw6 m6 s6 hnl eNL
                    go_upto_region 20 with (fail)
                    rw [← HW6.out]
                    clear c3 f3 eN
                    go_wp2
                    (try simp only [Exit.inBlock, Exit.then])
                    exact bodyPost_ret (rans_res rfl rfl (put5_arr R6.out.z _ _ _ _ _)) rfl (by
                      rw [E.out, HNI.out, ← HNL.out]
                      exact rdo_end (y := ({ x with t := putTH x.t c.hold, last := nl }, ⟨0, nl, [], [], []⟩)) (by omega) R6.out.s R6.out.m R6.out.z (own_nil _ _ _ _) (own_nil _ _ _ _) (own_nil _ _ _ _))
                  · have E := Lib.hid (show x.ask c = (x, .err pe) by
                      unfold GS.ask
                      rw [E1.out, E2.out, E3.out, E4.out, E5.out, E6.out, if_neg (by rw [← HPE.out]; exact hp), ← HPE.out])
                    have tt : putTH x.t c.hold = x.t := by
                      have := HPE.out
                      unfold putTH putT
                      rw [if_neg]
                      intro h
                      exact hp (by rw [this]; exact h)
                    have HTT := Lib.hid tt
                    have R6 := Lib.hid (show RAsk w X N0 sv rT bB gT gS gD cap gy cy (.slice p0 x.wl.length cap0) x c w5 by have := R5.out; rw [HTT.out] at this; exact this)
                    have hp1 : (pe != 0) = true := by simpa using hp
                    obtain ⟨g0, g1, g2, g3, g4, g5, g6, g7, g8, g9⟩ := rans_facts R6.out.z
                    clear hp tt
                    go_wp2
                    (try simp only [Exit.inBlock, Exit.then])
                    exact bodyPost_ret (rans_res rfl rfl (put5_arr R6.out.z _ _ _ _ _)) rfl (R6.out.err E.out)
                | false =>
                  have E6 := Lib.hid (show ∀ a b : GS × GA, (if freeT x.t c.hold x.wl = true then a else b) = b from fun a b => if_neg (by rw [← HFR.out]; simp))
                  have c2 := R4.out.s.c2
                  by_cases h32 : 32 ≤ x.wl.length
                  · have h32' : (32 : Int) ≤ (x.wl.length : Int) := by omega
                    have E := Lib.hid (show x.ask c = (x, .err 2) by
                      unfold GS.ask
                      rw [E1.out, E2.out, E3.out, E4.out, E5.out, E6.out, if_pos h32])
                    obtain ⟨g0, g1, g2, g3, g4, g5, g6, g7, g8, g9⟩ := rans_facts R4.out.z
                    clear h32
                    go_wp2
                    (try simp only [Exit.inBlock, Exit.then])
                    exact bodyPost_ret (rans_res rfl rfl (put5_arr R4.out.z _ _ _ _ _)) rfl (R4.out.err E.out)
                  · have h32' : ¬ (32 : Int) ≤ (x.wl.length : Int) := by omega
                    have h32d : decide (32 ≤ x.wl.length) = false := by simpa using h32
                    have hl32 : x.wl.length ≤ 32 := by omega
                    have E := Lib.hid (show x.ask c = ({ x with wl := x.wl ++ [c.hold] }, ⟨170, 0, [], someL x.t c.a c.b (pAg c.c c.m), []⟩) by
                      unfold GS.ask
                      rw [E1.out, E2.out, E3.out, E4.out, E5.out, E6.out, if_neg h32])
                    obtain ⟨wa, hwa⟩ : ∃ wa, wa = wz.alloc (.cells #[] 39) := ⟨_, rfl⟩
                    have ma : Mod [] wz wa := by rw [hwa]; exact (Mod.refl _ _).alloc _
                    have zl : w.heap.size ≤ wz.heap.size := R4.out.m.size
                    have h0 : wa.ownsRow wz.heap.size 39 4 (.slice (some ⟨wz.heap.size, 0, none⟩) 0 0) 0 [] := by rw [hwa]; exact own_empty wz _ _ _ (Nat.le_refl _)
                    have RA := Lib.hid (R4.out.next ma)
                    have HWA := Lib.hid hwa
                    have H0 := Lib.hid h0
                    obtain ⟨i0, hi, hz, hz1, hz2⟩ := info_parts info_hold
                    have c2a : wa.cell? ⟨sv, 2, none⟩ = some (.slice p0 x.wl.length cap0) := RA.out.s.c2
                    have hal : wz.heap.size ≤ wa.heap.size := ma.size
                    have hfr : ∀ q, q ∈ (Value.slice (some ⟨wz.heap.size, 0, none⟩) 0 0).ownBlock.toList → wz.heap.size ≤ q := fun q hq => by simp [Value.ownBlock] at hq; omega
                    have HFR2 := Lib.hid hfr
                    have hcw : sv < wa.heap.size := RA.out.s.arr.lt
                    have fin : ∀ v9 w9, w9.ownsRow wz.heap.size 39 4 v9 x.wl.length (hcells x.wl) → Mod (Value.slice (some ⟨wz.heap.size, 0, none⟩) 0 0).ownBlock.toList wa w9 → Grew wz w9 x v9 := fun v9 w9 ho m => ⟨ma.fresh m (fun q hq => .inr (hfr q hq)), ho⟩
                    have FIN := Lib.hid fin
                    clear hwa ma h0 hfr fin h32
                    go_upto_region 24 with (fail)
                    rw [← HWA.out]
                    go_cut [8] (fun s wx => Grew wz wx x s)
                    case first =>
                      have wt := RA.out.s.wt
                      obtain ⟨hx, ⟨hv, hl0⟩ | ⟨g, cap', cur, hv, hg, hh, hc, hm, hs, hxs⟩⟩ := id wt
                      · have hL : x.wl = [] := List.length_eq_zero_iff.1 hl0
                        have FN := Lib.hid (FIN.out _ _ (show wa.ownsRow wz.heap.size 39 4 (.slice (some ⟨wz.heap.size, 0, none⟩) 0 0) x.wl.length (hcells x.wl) by rw [hL]; exact H0.out) (Mod.refl _ _))
                        rw [hv] at c2a
                        clear wt hx hl0 hL hv
                        go_wp2_with (
                          at_builtin
                          refine wpList_append_own_none rfl _ _ 31 rfl wz.heap.size 39 i0 4 Tryd.underlying31 hi (.slice (some ⟨wz.heap.size, 0, none⟩) 0 0) 0 [] rfl H0.out rfl ?_)
                        go_meet
                        exact FN.out
                      · have HN := Lib.hid (show ∀ j u, (hcells x.wl)[j]? = some u → wa.cell? ((⟨g, 0, none⟩ : Addr).add j) = some u from fun j u hu => by
                          have e1 : (⟨g, 0, none⟩ : Addr).add j = ⟨g, j, none⟩ := by
                            unfold Addr.add
                            by_cases z1 : j = 0 <;> simp [z1]
                          rw [e1]
                          have w2 := wt
                          rw [hv] at w2
                          exact (own_cell w2 hu).1)
                        have HL4 : Hid ((hcells x.wl).length = x.wl.length * 4) := Lib.hid (hcells_len x.wl)
                        have H1 := Lib.hid (hcells_one x.wl)
                        have hml : x.wl.length ≤ maxLen := by unfold maxLen; omega
                        rw [hv] at c2a
                        clear wt hx hg hh hc hm hs hxs hv
                        go_wp2_with (
                          at_builtin
                          refine wpList_append_own _ rfl _ _ 31 rfl wz.heap.size 39 i0 (.agg #[.int .i64 0, .int .i64 0, .int .i64 0, .int .i64 0]) 4 32 Tryd.underlying31 hi hz hz1 hz2 rfl (by omega) (.slice (some ⟨wz.heap.size, 0, none⟩) 0 0) 0 [] rfl H0.out ⟨g, 0, none⟩ x.wl.length cap' (hcells x.wl) rfl HL4.out HN.out H1.out (by omega) (by omega) hal ?_
                          intro v9 w9 ho9 m9 _
                          rw [List.nil_append, Nat.zero_add] at ho9
                          have FN := Lib.hid (FIN.out _ _ ho9 (mod_grown m9))
                          clear ho9 m9)
                        go_meet
                        exact FN.out
                    case rest =>
                      obtain ⟨M7, O7⟩ := hcut
                      generalize wc = wy at *
                      have R7 := R4.out.next M7
                      have HM7 := Lib.hid M7
                      have HR7 := Lib.hid R7
                      have HO7 := Lib.hid (own_mod O7 ((Mod.refl [] wy).alloc (.cells #[.int .i64 c.a, .int .i64 c.b, .int .i64 c.c, .int .i64 c.m] 39)) (fun _ _ => by simp))
                      have z0 := R7.h.cell 0 (by omega)
                      have z1 := R7.h.cell 1 (by omega)
                      have z2 := R7.h.cell 2 (by omega)
                      have z3 := R7.h.cell 3 (by omega)
                      simp only [askH, if_true, if_false, Nat.reduceEqDiff] at z0 z1 z2 z3
                      have HN := Lib.hid (hnews_j wy c)
                      have hsy : sv < wy.heap.size := R7.s.arr.lt
                      have zl2 : wz.heap.size ≤ wy.heap.size := M7.size
                      have nsv : sv ∉ u8.ownBlock.toList := own_notArr O7 R7.s.arr (by decide)
                      have ec : hcells (x.wl ++ [c.hold]) = hcells x.wl ++ [.int .i64 c.a, .int .i64 c.b, .int .i64 c.c, .int .i64 c.m] := by
                        rw [hcells_append]
                        congr 1
                        show [Value.int .i64 (c.hold.1 : Nat), .int .i64 (c.hold.2.1 : Nat), .int .i64 (c.hold.2.2.1 : Nat), .int .i64 (c.hold.2.2.2 : Nat)] = _
                        rw [KH.out.1, KH.out.2.1, KH.out.2.2.1, KH.out.2.2.2]
                      have EC := Lib.hid ec
                      have HN1 := Lib.hid nsv
                      have HO70 := Lib.hid O7
                      clear R7 O7 ec nsv c2a RA H0 FIN HFR2 hcw M7
                      go_upto_region 25 with (fail)
                      go_cut [0] (fun s0 wx => s0 = .pointer (some ⟨sv, 0, none⟩) ∧ ∃ v5, RAsk w X N0 sv rT bB gT gS gD cap gy cy v5 { x with wl := x.wl ++ [c.hold] } c wx)
                      case first =>
                        go_wp2_with (at_builtin; refine app1 wz.heap.size 31 39 (.agg #[.int .i64 0, .int .i64 0, .int .i64 0, .int .i64 0]) 4 32 Tryd.underlying31 info_hold rfl (by omega) (by omega) rfl _ _ rfl u8 _ _ rfl HO7.out wy.heap.size [.int .i64 c.a, .int .i64 c.b, .int .i64 c.c, .int .i64 c.m] rfl rfl HN.out (by simp [Value.oneCell']) (by omega) (by simp; omega) ?_; intro g1 cap1 w8 ho8 hm8 hgg hbg; have a8 := ((HR7.out.s.arr.alloc (.cells #[.int .i64 c.a, .int .i64 c.b, .int .i64 c.c, .int .i64 c.m] 39)).mod hm8 HN1.out); have f8 := a8.free 2; have c8 : w8.cell? ⟨sv, 2, none⟩ = some (.slice p0 x.wl.length cap0) := a8.cell 2 (by omega); have hs8 : sv < w8.heap.size := a8.lt; clear a8)
                        have far := own_far HO70.out
                        have mk : Mod [] wz w8 := HM7.out.fresh (((Mod.refl [] wy).alloc (.cells #[.int .i64 c.a, .int .i64 c.b, .int .i64 c.c, .int .i64 c.m] 39)).nil.trans hm8 : Mod u8.ownBlock.toList wy w8) (fun q hq => .inr (far q hq))
                        have R8 := R4.out.next mk
                        have s9 : RSv (w8.setCell ⟨sv, 2, none⟩ (.slice (some ⟨g1, 0, none⟩) (x.wl.length + 1) cap1)) X N0 sv rT bB gT gS gD cap gy cy (.slice (some ⟨g1, 0, none⟩) (x.wl.length + 1) cap1) { x with wl := x.wl ++ [c.hold] } :=
                          RSv.setV (l := x.wl ++ [c.hold]) (n := x.last) R8.s (own_base (by rw [EC.out, List.length_append]; exact ho8) (Nat.zero_le _)) (fun k hk e => by
                            have h1 : g1 = k := by simpa [Value.ownBlock] using hk
                            have h2 := HX.out k e
                            omega) (by have := inv_ask HIV.out c; rw [E.out] at this; exact this) (fun j hj => by
                            match j, hj with
                            | 0, _ | 1, _ | 2, _ | 3, _ | 4, _ => rfl)
                        have R9 := Lib.hid (R8.own HLT.out s9 ((Mod.refl [sv] w8).setCell (.inl (by simp)) _) (fun z hz => by have := List.mem_singleton.1 hz; subst this; simp [RbL]))
                        clear ho8 hm8 hgg hbg f8 c8 far mk R8 s9
                        go_meet
                        exact ⟨rfl, _, R9.out⟩
                      case rest =>
                        obtain ⟨rfl, v5, R9⟩ := hcut
                        generalize wc = wq at *
                        have R9D := Lib.hid (R9.next (Mod.refl [] wq).drew)
                        have c0 : wq.drew.cell? ⟨sv, 0, none⟩ = some (.pointer (some ⟨rT, 0, none⟩)) := R9D.out.s.c0
                        have z0 := R9D.out.h.cell 0 (by omega)
                        have z1 := R9D.out.h.cell 1 (by omega)
                        have z2 := R9D.out.h.cell 2 (by omega)
                        have z3 := R9D.out.h.cell 3 (by omega)
                        simp only [askH, if_true, if_false, Nat.reduceEqDiff] at z0 z1 z2 z3
                        have AG := Lib.hid (ragainst_calls wq.drew X rT x.t c.a c.b c.c c.m R9D.out.s.tb)
                        clear R9 HR7 HO7 HO70 HN HN1 zl2 hsy
                        go_wp2
                        first
                          | (go_region_with (first
                            | (go_at_call 73; (with_reducible refine AG.out.mono ?_); rintro e w6 ⟨v6, rfl, o6, m6⟩; obtain ⟨p6, c6, rfl⟩ := own_len o6; have RZ := Lib.hid (R9D.out.next m6); obtain ⟨k0, k1, k2, k3, k4, k5, k6, k7, k8, k9⟩ := rans_facts RZ.out.z)))
                          | fail
                        all_goals
                          have O6 := Lib.hid (own_base o6 (Nat.zero_le _))
                          clear o6 m6
                          go_wp2
                          (try simp only [Exit.inBlock, Exit.then])
                          exact bodyPost_ret (rans_res rfl rfl (put5_arr RZ.out.z _ _ _ _ _)) rfl (by rw [E.out]; exact rdo_end (y := ({ x with wl := x.wl ++ [c.hold] }, ⟨170, 0, [], someL x.t c.a c.b (pAg c.c c.m), []⟩)) (by omega) RZ.out.s RZ.out.m RZ.out.z (own_nil _ _ _ _) O6.out (own_nil _ _ _ _))
end Go.Proofs.YtijjbkkcienfgaaDoor.Rf
