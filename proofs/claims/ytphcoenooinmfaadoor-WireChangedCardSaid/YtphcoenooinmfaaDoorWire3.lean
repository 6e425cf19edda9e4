/- Package wire's steps of reading, and each step: what they come to. Premise: the reader and the message lie in memory. -/
import Derived.Test.YtphcoenooinmfaaDoorWire2
namespace Go.Proofs.YtphcoenooinmfaaDoor
open Go.RowKit
set_option linter.unusedVariables false
set_option linter.unusedSimpArgs false
attribute [local go_sem ↓] Go.wp_at_zero Go.wp_at_succ

/-- append(v, xs...) of m elements of sz cells each onto a row of one's own, at a plain region. -/
theorem appM {P : Program} {ops : Array Oper} {rest : List Oper} {o : Oper} {a : Act} {Q : Exit → Act → World → Prop} {w : World} (m base : Nat) (T e : TypeId) (z : Value) (sz bytes : Nat) (hm : 0 < m) (hm1 : m ≤ 1000)
    (hT : P.underlying T = some (.slice e)) (hinfo : (P.info? e).map (fun i => (i.zero, i.size, i.bytes)) = some (some z, sz, bytes)) (hzc : z.cells.size = sz) (hsz : 0 < sz) (hby : bytes ≤ 1000)
    (hgd : o.guard = none) (s x : Operand) (ho : o.op = .call { callee := .builtin .append, args := #[s, x], argTypes := #[T, T] })
    (v : Value) (n : Nat) (xs : List Value) (hs : a.eval s = v) (hown : w.ownsRow base e sz v n xs) (g0 cp : Nat) (news : List Value) (hx : a.eval x = .slice (some ⟨g0, 0, none⟩) m cp)
    (hl : news.length = m * sz) (hc : ∀ (j : Nat) u, news[j]? = some u → w.cell? ⟨g0, j, none⟩ = some u) (hy : ∀ u ∈ news, u.oneCell' = true) (hn : n ≤ 1000000) (hbase : base ≤ w.heap.size)
    (h : ∀ g cap w', w'.ownsRow base e sz (.slice (some ⟨g, 0, none⟩) (n + m) cap) (n + m) (xs ++ news) → Mod v.ownBlock.toList w w' → (v.ownBlock = some g ∨ g = w.heap.size) → base ≤ g →
      wpList P ops Q rest (a.put o.dst (.slice (some ⟨g, 0, none⟩) (n + m) cap)) w') : wpList P ops Q (o :: rest) a w := by
  obtain ⟨i, hi, hz, hs', hb⟩ := info_parts hinfo
  refine wpList_append_lies w hgd s x T ho base e i z sz bytes hT hi hz hs' hb hzc hsz v n xs hs hown ⟨g0, 0, none⟩ m cp news hx hl ?_ hy hm (by unfold maxLen; omega) ?_ hbase w.heap.size rfl ?_
  · intro j u hu
    have := hc j u hu
    have e1 : (⟨g0, 0, none⟩ : Addr).add j = ⟨g0, j, none⟩ := by
      unfold Addr.add
      by_cases z1 : j = 0 <;> simp [z1]
    rw [e1]
    exact this
  · have : (n + m) * bytes ≤ 1001000 * 1000 := Nat.mul_le_mul (by omega) hby
    omega
  · intro g cap w' h1 h2 h3 h4
    exact h g cap w' h1 (mod_grown h2) h3 (by
      obtain ⟨_, h5 | ⟨g', cap', cur, he, hg, _⟩⟩ := h1
      · cases h5.1
      · cases he; exact hg)
theorem fn_info : (Tryd.prog.info? 129).map (fun i => (i.zero, i.size, i.bytes)) = some (some .nilFunc, 1, 8) := by kernel_rfl
/-- The steps' function values; cb: where the columns' copies lie. -/
def stepV (rbox mbox rb : Nat) (cb : Nat → Nat) (j : Nat) : Value :=
  if j < 7 then .func (.func 82) #[] #[.pointer (some ⟨rbox, 0, none⟩), .pointer (some ⟨cb j, 0, none⟩)]
  else if j = 7 then .func (.func 84) #[] #[.pointer (some ⟨rbox, 0, none⟩), .pointer (some ⟨mbox, 0, none⟩)]
  else if j = 8 then .func (.func 86) #[.pointer (some ⟨rb, 0, none⟩)] #[]
  else .func (.func 87) #[] #[.pointer (some ⟨mbox, 0, none⟩)]
def colC (mb j : Nat) (i : Nat) : Value := if i = 0 then .pointer (some ⟨mb, j, none⟩) else .int .i64 (wid j)
/-- The steps in memory. -/
structure StepsAt (w : World) (g rbox mbox rb mb : Nat) (cb : Nat → Nat) : Prop where
  fn : Arr w g 129 10 (stepV rbox mbox rb cb)
  rx : Arr w rbox 125 1 (fun _ => .pointer (some ⟨rb, 0, none⟩))
  mx : Arr w mbox 101 1 (fun _ => .pointer (some ⟨mb, 0, none⟩))
  co : ∀ j, j < 7 → Arr w (cb j) 104 2 (colC mb j)
theorem StepsAt.mod {S : List Nat} {w w' : World} {g rbox mbox rb mb : Nat} {cb : Nat → Nat} (h : StepsAt w g rbox mbox rb mb cb) (m : Mod S w w') (h1 : g ∉ S) (h2 : rbox ∉ S) (h3 : mbox ∉ S) (h4 : ∀ j, j < 7 → cb j ∉ S) : StepsAt w' g rbox mbox rb mb cb :=
  ⟨h.fn.mod m h1, h.rx.mod m h2, h.mx.mod m h3, fun j hj => (h.co j hj).mod m (h4 j hj)⟩
def fnsL (rbox mbox rb : Nat) (cb : Nat → Nat) (j : Nat) : List Value := (List.range j).map (stepV rbox mbox rb cb)
theorem fnsL_congr {rbox mbox rb : Nat} {cb cb' : Nat → Nat} {j : Nat} (h : ∀ q, q < j → q < 7 → cb q = cb' q) : fnsL rbox mbox rb cb j = fnsL rbox mbox rb cb' j := by
  unfold fnsL
  apply List.map_congr_left
  intro q hq
  have hq' : q < j := List.mem_range.1 hq
  unfold stepV
  by_cases h7 : q < 7
  · rw [if_pos h7, if_pos h7, h q hq' h7]
  · rw [if_neg h7, if_neg h7]
def upN (cb : Nat → Nat) (j v : Nat) (q : Nat) : Nat := if q = j then v else cb q
theorem fnsL_succ (rbox mbox rb : Nat) (cb : Nat → Nat) (j v : Nat) (hj : j < 7) :
    fnsL rbox mbox rb cb j ++ [.func (.func 82) #[] #[.pointer (some ⟨rbox, 0, none⟩), .pointer (some ⟨v, 0, none⟩)]] = fnsL rbox mbox rb (upN cb j v) (j + 1) := by
  have e1 : fnsL rbox mbox rb (upN cb j v) (j + 1) = fnsL rbox mbox rb (upN cb j v) j ++ [stepV rbox mbox rb (upN cb j v) j] := by simp [fnsL, List.range_succ]
  rw [e1, fnsL_congr (cb := cb) (cb' := upN cb j v) (fun q hq _ => by unfold upN; rw [if_neg (by omega)])]
  congr 1
  unfold stepV
  rw [if_pos hj]
  simp [upN]
def StepsPost (w : World) (rb mb : Nat) (e : Ending) (w' : World) : Prop :=
  (∃ g cap rbox mbox cb, e = .returned (.slice (some ⟨g, 0, none⟩) 10 cap) ∧ 10 ≤ cap ∧ cap ≤ 9223372036854775807 ∧ StepsAt w' g rbox mbox rb mb cb ∧ w.heap.size ≤ g ∧ w.heap.size ≤ rbox ∧ w.heap.size ≤ mbox ∧ ∀ j, j < 7 → w.heap.size ≤ cb j) ∧ Mod [] w w'
set_option maxRecDepth 100000 in
set_option maxHeartbeats 4000000 in
theorem steps_calls (w : World) (rb mb : Nat) :
    Calls Tryd.prog 63 #[.pointer (some ⟨rb, 0, none⟩), .pointer (some ⟨mb, 0, none⟩)] w (StepsPost w rb mb) := by
  obtain ⟨w1, hw1⟩ : ∃ w1, w1 = w.alloc (.cells #[.pointer (some ⟨rb, 0, none⟩)] 125) := ⟨_, rfl⟩
  obtain ⟨w2, hw2⟩ : ∃ w2, w2 = w1.alloc (.cells #[.pointer (some ⟨mb, 0, none⟩)] 101) := ⟨_, rfl⟩
  have hs1 : w1.heap.size = w.heap.size + 1 := by rw [hw1]; simp
  have hs2 : w2.heap.size = w.heap.size + 1 + 1 := by rw [hw2]; simp [hs1]
  have m1 : Mod [] w w1 := by rw [hw1]; exact (Mod.refl _ _).alloc _
  have m2 : Mod [] w1 w2 := by rw [hw2]; exact (Mod.refl _ _).alloc _
  have R1 : Arr w1 w.heap.size 125 1 (fun _ => .pointer (some ⟨rb, 0, none⟩)) := by
    rw [hw1]; exact Arr.new' w _ _ 1 _ rfl (fun i hi => by simp [show i = 0 by omega])
  have X2 : Arr w2 w1.heap.size 101 1 (fun _ => .pointer (some ⟨mb, 0, none⟩)) := by
    rw [hw2]; exact Arr.new' w1 _ _ 1 _ rfl (fun i hi => by simp [show i = 0 by omega])
  rw [hs1] at X2
  have R2 := R1.mod m2 (by simp)
  have c2 := X2.cell 0 (by omega)
  have HR2 := Lib.hid R2
  have HX2 := Lib.hid X2
  have M2 := Lib.hid (m1.trans m2)
  rw [hw1] at hw2
  have HZ := Lib.hid hw2
  have HS2 := Lib.hid hs2
  have C := Lib.hid (columns_calls w2 mb)
  rw [hw2] at c2
  clear hw1 hs1 m1 m2 R1 X2 R2 hs2 hw2
  go_enter Tryd.func63, Tryd.ntmps63
  go_wp2_with fail
  rw [← HZ.out]
  refine C.out.mono ?_
  rintro e w3 ⟨rfl, hC3, m3⟩
  obtain ⟨cb0, hcb0⟩ : ∃ cb0, cb0 = w2.heap.size := ⟨_, rfl⟩
  rw [← hcb0] at hC3 ⊢
  have HC3 := Lib.hid hC3
  have R3 := Lib.hid (HR2.out.mod m3 (by simp))
  have X3 := Lib.hid (HX2.out.mod m3 (by simp))
  have M3 := Lib.hid (M2.out.trans m3)
  have hz3 := (M2.out.trans m3).size
  have hc3 := hC3.lt
  clear m3 hC3 c2 HZ C HR2 HX2 hcb0
  obtain ⟨rbox, hrbox⟩ : ∃ q, q = w.heap.size := ⟨_, rfl⟩
  obtain ⟨mbox, hmbox⟩ : ∃ q, q = w.heap.size + 1 := ⟨_, rfl⟩
  rw [← hrbox] at R3
  rw [← hmbox] at X3
  rw [← hrbox] at hmbox
  have HRB := Lib.hid hrbox
  have HMB := Lib.hid hmbox
  go_wp2
  rw [← hrbox, ← hmbox]
  clear hrbox hmbox
  go_loopw [5, 11] (fun v i wr => ∃ (j : Nat) (cb : Nat → Nat) (v' : Value), v = v' ∧ j ≤ 7 ∧ i = .int .i64 j ∧ wr.ownsRow w3.heap.size 129 1 v' j (fnsL rbox mbox rb cb j) ∧ (∀ q, q < j → Arr wr (cb q) 104 2 (colC mb q) ∧ w3.heap.size ≤ cb q) ∧ Mod [] w3 wr) (fun _ i _ => 7 - (intOf i).toNat)
  case atStart => exact ⟨0, fun _ => 0, _, rfl, by omega, rfl, own_nil _ _ _ _, fun q hq => absurd hq (by omega), Mod.refl _ _⟩
  case round =>
    obtain ⟨j, cb, v', rfl, hj, rfl, hown, hco, hM⟩ := hrel
    have hCr := HC3.out.mod hM (by simp)
    have hRr := Lib.hid (R3.out.mod hM (by simp))
    have hXr := Lib.hid (X3.out.mod hM (by simp))
    have HCO := Lib.hid hco
    have HO := Lib.hid hown
    have HM := Lib.hid hM
    have hzr := hM.size
    clear hco hown hM
    by_cases hlt : j < 7
    · have i0 : (0 : Int) ≤ (j : Int) := by omega
      have i1 : (j : Int) < 7 := by omega
      have q0 := hCr.cell (j * 2) (by omega)
      have q1 := hCr.cell (j * 2 + 1) (by omega)
      rw [colF_ptr] at q0
      rw [colF_wid] at q1
      have hwd : colC mb j 1 = .int .i64 (wid j) := rfl
      generalize wid j = wj at q1 hwd
      have HWD := Lib.hid hwd
      obtain ⟨wa, hwa⟩ : ∃ wa, wa = wr.alloc (.cells #[.pointer (some ⟨mb, j, none⟩), .int .i64 wj] 104) := ⟨_, rfl⟩
      obtain ⟨wb, hwb⟩ : ∃ wb, wb = wa.alloc (.cells #[.func (.func 82) #[] #[.pointer (some ⟨rbox, 0, none⟩), .pointer (some ⟨wr.heap.size, 0, none⟩)]] 129) := ⟨_, rfl⟩
      have ma : Mod [] wr wa := by rw [hwa]; exact (Mod.refl _ _).alloc _
      have mb' : Mod [] wa wb := by rw [hwb]; exact (Mod.refl _ _).alloc _
      have hza : wa.heap.size = wr.heap.size + 1 := by rw [hwa]; simp
      have hzb := (ma.trans mb').size
      have Aa : Arr wa wr.heap.size 104 2 (colC mb j) := by
        rw [hwa]
        refine Arr.new' wr _ _ 2 _ rfl (fun i hi => ?_)
        match i, hi with
        | 0, _ => rfl
        | 1, _ => rw [HWD.out]; rfl
      have cn : wb.cell? ⟨wr.heap.size + 1, 0, none⟩ = some (.func (.func 82) #[] #[.pointer (some ⟨rbox, 0, none⟩), .pointer (some ⟨wr.heap.size, 0, none⟩)]) := by rw [hwb]; exact new_cell1 wa _ _ _ hza
      have ho2 := own_mod HO.out (ma.trans mb') (by simp)
      have AB := Lib.hid (Aa.mod mb' (by simp))
      have MAB := Lib.hid (ma.trans mb')
      rw [hwa] at hwb
      have HWB := Lib.hid hwb
      clear hwd hwa hwb ma mb' Aa hza
      go_wp2_with (
        at_builtin
        rw [← HWB.out]
        refine app1 w3.heap.size 127 129 .nilFunc 1 8 Tryd.underlying127 fn_info rfl (by omega) (by omega) rfl _ _ rfl u5 _ _ rfl ho2 (wr.heap.size + 1) [.func (.func 82) #[] #[.pointer (some ⟨rbox, 0, none⟩), .pointer (some ⟨wr.heap.size, 0, none⟩)]] rfl rfl (news1 cn) (by simp [Value.oneCell']) (by omega) (by omega) ?_
        intro ga cap wc ho3 mc hg3 hb3
        have O3 := Lib.hid ho3
        have MC := Lib.hid mc
        clear ho3 mc ho2 cn)
      go_roundw
      case rel =>
        have hn1 := own_ne_arr (own_mod HO.out MAB.out (by simp)) AB.out (by decide)
        refine ⟨j + 1, upN cb j wr.heap.size, _, rfl, by omega, by go_num, by rw [← fnsL_succ _ _ _ _ _ _ hlt]; exact O3.out, fun q hq => ?_, (HM.out.trans MAB.out).fresh MC.out (fun x hx => .inr (by
          have := own_lt' HO.out x (by simpa using hx)
          omega))⟩
        by_cases hqj : q = j
        · subst hqj
          unfold upN
          rw [if_pos rfl]
          exact ⟨AB.out.mod MC.out hn1, by omega⟩
        · unfold upN
          rw [if_neg hqj]
          obtain ⟨h1, h2⟩ := HCO.out q (by omega)
          have h3 := h1.mod MAB.out (by simp)
          exact ⟨h3.mod MC.out (own_ne_arr (own_mod HO.out MAB.out (by simp)) h3 (by decide)), h2⟩
      case measure => simp [intOf]; omega
    · obtain rfl : j = 7 := by omega
      have i1 : ¬ ((7 : Nat) : Int) < 7 := by omega
      have r0 := hRr.out.cell 0 (by omega)
      obtain ⟨wa, hwa⟩ : ∃ wa, wa = wr.alloc (.cells #[.func (.func 84) #[] #[.pointer (some ⟨rbox, 0, none⟩), .pointer (some ⟨mbox, 0, none⟩)], .func (.func 86) #[.pointer (some ⟨rb, 0, none⟩)] #[], .func (.func 87) #[] #[.pointer (some ⟨mbox, 0, none⟩)]] 129) := ⟨_, rfl⟩
      have ma : Mod [] wr wa := by rw [hwa]; exact (Mod.refl _ _).alloc _
      have cn : ∀ (j : Nat) u, [Value.func (.func 84) #[] #[.pointer (some ⟨rbox, 0, none⟩), .pointer (some ⟨mbox, 0, none⟩)], .func (.func 86) #[.pointer (some ⟨rb, 0, none⟩)] #[], .func (.func 87) #[] #[.pointer (some ⟨mbox, 0, none⟩)]][j]? = some u → wa.cell? ⟨wr.heap.size, j, none⟩ = some u := by
        intro j u hu
        rw [hwa]
        exact new_cellN _ _ _ _ _ _ rfl (by rw [← hu]; simp)
      have ho2 := own_mod HO.out ma (by simp)
      have MA := Lib.hid ma
      have HWA := Lib.hid hwa
      have hza := ma.size
      have CN := Lib.hid cn
      clear ma hwa hCr cn
      go_wp2_with (
        at_builtin
        rw [← HWA.out]
        refine appM 3 w3.heap.size 127 129 .nilFunc 1 8 (by omega) (by omega) Tryd.underlying127 fn_info rfl (by omega) (by omega) rfl _ _ rfl u5 _ _ rfl ho2 wr.heap.size 3 _ rfl rfl CN.out (by simp [Value.oneCell']) (by omega) (by omega) ?_
        intro ga cap wc ho3 mc hg3 hb3
        have O3 := Lib.hid ho3
        have MC := Lib.hid mc
        clear ho3 mc ho2)
      go_ret
      obtain ⟨g9, cap9, e9, hg9, hn9, hc9, A9⟩ := own_arr O3.out (by omega)
      cases e9
      have mall : Mod [] w3 wc := (HM.out.trans MA.out).fresh MC.out (fun x hx => .inr (by
        have := own_lt' HO.out x (by simpa using hx)
        omega))
      have hrb := HRB.out
      have hmb := HMB.out
      have hs2 := HS2.out
      refine ⟨⟨ga, cap, rbox, mbox, cb, rfl, hn9, by unfold maxLen at hc9; omega, ⟨A9.congr fun i hi => ?_, R3.out.mod mall (by simp), X3.out.mod mall (by simp), fun q hq => ?_⟩, by omega, by omega, by omega, fun q hq => ?_⟩, M3.out.trans mall⟩
      · rcases Nat.lt_or_ge i 7 with h7 | h7
        · have e1 : (fnsL rbox mbox rb cb 7 ++ [Value.func (.func 84) #[] #[.pointer (some ⟨rbox, 0, none⟩), .pointer (some ⟨mbox, 0, none⟩)], .func (.func 86) #[.pointer (some ⟨rb, 0, none⟩)] #[], .func (.func 87) #[] #[.pointer (some ⟨mbox, 0, none⟩)]])[i]? = some (stepV rbox mbox rb cb i) := by
            rw [List.getElem?_append_left (by simp [fnsL]; omega)]
            unfold fnsL
            simp [List.getElem?_range h7]
          rw [List.getD_eq_getElem?_getD, e1]
          rfl
        · have e2 : (fnsL rbox mbox rb cb 7).length = 7 := by simp [fnsL]
          rw [List.getD_eq_getElem?_getD, List.getElem?_append_right (by omega), e2]
          have h3 : i = 7 ∨ i = 8 ∨ i = 9 := by omega
          rcases h3 with rfl | rfl | rfl <;> rfl
      · have h1 := ((HCO.out q hq).1).mod MA.out (by simp)
        exact h1.mod MC.out (own_ne_arr (own_mod HO.out MA.out (by simp)) h1 (by decide))
      · have := (HCO.out q hq).2; omega
/-- Where a decoder is: the reader at position a of t, the message's cells f. -/
structure DecSt (w : World) (rb mb : Nat) (t : ByteArray) (a : Nat) (f : Nat → Value) : Prop where
  r : Rdr w 167 rb t a
  m : Arr w mb 62 8 f
  ne : rb ≠ mb
def setF (f : Nat → Value) (j : Nat) (v : Value) (i : Nat) : Value := if i = j then v else f i
/-- What a step leaves. -/
def StepPost (w : World) (rb mb : Nat) (t : ByteArray) (l : List Int) (a' : Nat) (f' : Nat → Value) (r : Ending) (w' : World) : Prop :=
  ∃ v E, r = .returned v ∧ Errs w' v l E ∧ (∀ x, x ∈ E → w.heap.size ≤ x) ∧ DecSt w' rb mb t a' f' ∧ Mod [rb, mb] w w'
set_option maxRecDepth 100000 in
set_option maxHeartbeats 2000000 in
theorem step1_calls (w : World) (rbox cj rb mb j : Nat) (t : ByteArray) (a : Nat) (f : Nat → Value) (hj : j < 7) (hS : DecSt w rb mb t a f) (hrx : Arr w rbox 125 1 (fun _ => .pointer (some ⟨rb, 0, none⟩))) (hco : Arr w cj 104 2 (colC mb j)) (ha : a ≤ t.size) (hs : t.size ≤ 1000000) (h1 : rbox ∉ [rb, mb]) (h2 : cj ∉ [rb, mb]) :
    Calls Tryd.prog 82 #[.pointer (some ⟨rbox, 0, none⟩), .pointer (some ⟨cj, 0, none⟩)] w (StepPost w rb mb t (rdL t a (wid j)) (rdA t a (wid j)) (setF f j (.int .i64 (rdN t a (wid j))))) := by
  obtain ⟨k0, k1⟩ := wid_bd j
  have q0 : w.drew.cell? ⟨cj, 0, none⟩ = some (.pointer (some ⟨mb, j, none⟩)) := hco.cell 0 (by omega)
  have q1 : w.drew.cell? ⟨cj, 1, none⟩ = some (.int .i64 (wid j)) := hco.cell 1 (by omega)
  have q2 : w.drew.cell? ⟨rbox, 0, none⟩ = some (.pointer (some ⟨rb, 0, none⟩)) := hrx.cell 0 (by omega)
  have P := Lib.hid (rnum_calls w.drew rb t a (wid j) (hS.r.mod0 ((Mod.refl _ _).drew)) ha hs (by omega) (by omega))
  have KS := Lib.hid (show ∀ w', Mod [rb, mb] w.drew w' → w'.cell? ⟨cj, 0, none⟩ = some (.pointer (some ⟨mb, j, none⟩)) ∧ w'.cell? ⟨cj, 1, none⟩ = some (.int .i64 (wid j)) ∧ w'.cell? ⟨rbox, 0, none⟩ = some (.pointer (some ⟨rb, 0, none⟩)) from fun w' m => ⟨m.cell' q0 h2, m.cell' q1 h2, m.cell' q2 h1⟩)
  have HS := Lib.hid hS
  generalize wid j = wj at *
  generalize rdN t a wj = x at *
  have hrl : rb < w.heap.size := Arr.lt hS.r
  have hml := hS.m.lt
  clear hS hrx hco k0 k1
  unfold RdPost at P
  go_enter Tryd.func82, Tryd.ntmps82
  go_wp2_with fail
  go_region_held3 (fun w' => w'.cell? ⟨cj, 0, none⟩ = some (.pointer (some ⟨mb, j, none⟩)) ∧ w'.cell? ⟨cj, 1, none⟩ = some (.int .i64 wj) ∧ w'.cell? ⟨rbox, 0, none⟩ = some (.pointer (some ⟨rb, 0, none⟩)))
    ((refine KS.out _ ?_; with_reducible first
      | exact Mod.refl _ _
      | exact M5.out
      | exact M6.out _))
    (first
      | (go_at_call 83; (with_reducible refine P.out.mono ?_); rintro r w5 ⟨v5, E5, rfl, hE5, hx5, hR5, m5⟩; have M5 := Lib.hid (m5.mono (T := [rb, mb]) (by simp)); have M6 := Lib.hid (fun u => M5.out.setCell (p := ⟨mb, j, none⟩) (.inl (by simp)) u); have Q5 := Lib.hid (And.intro hE5 (And.intro hx5 hR5)); have A5 := ((HS.out.m.mod ((Mod.refl [] w).drew) (by simp)).mod m5 (by simp; exact fun e => HS.out.ne e.symm)); have a5 := A5.cell j (by omega); have b5 := A5.free j; have H5 := Lib.hid A5; clear hE5 hx5 hR5 m5 A5))
  have F : Hid (StepPost w rb mb t (rdL t a wj) (rdA t a wj) (setF f j (.int .i64 x)) (.returned v5) (w5.setCell ⟨mb, j, none⟩ (.int .i64 x))) := Lib.hid (by
    have ms : Mod [mb] w5 (w5.setCell ⟨mb, j, none⟩ (.int .i64 x)) := (Mod.refl _ _).setCell (.inl (by simp)) _
    exact ⟨v5, E5, rfl, Q5.out.1.mod ms (fun y hy => by have := Q5.out.2.1 y hy; simp at this; simp; omega), fun y hy => Q5.out.2.1 y hy, ⟨Q5.out.2.2.mod ms (by simp; exact HS.out.ne), (H5.out.set j _).congr fun i hi => by simp [setF], HS.out.ne⟩, (Mod.refl [rb, mb] w).drew.trans (M6.out _)⟩)
  go_wp2
  go_ret
  exact F.out
end Go.Proofs.YtphcoenooinmfaaDoor
