/- Cancelling, and the simple commands, at the document's side. No condition beyond what stands in each. Each kind of command, at the document's side. No condition beyond what stands in each. (Written by wip/tools/genRg5.py.) -/
import Derived.Test.YtijjbkkcienfgaaDoorRgB
namespace Go.Proofs.YtijjbkkcienfgaaDoor.Rf
open Go.RowKit
set_option linter.unusedVariables false
set_option linter.unusedSimpArgs false
attribute [local go_sem ↓] Go.wp_at_zero Go.wp_at_succ

/-- Behind the first steps of a command: what stands. -/
structure RCm (w : World) (X : List Nat) (N0 sv rT bB gT gS gD cap gy cy : Nat) (v : Value) (x : GS) (c : CmdT) (wx : World) : Prop where
  s : RSv wx X N0 sv rT bB gT gS gD cap gy cy v x
  m : Mod (RbL sv rT bB gT gS gD gy) w wx
  z : Arr wx (w.heap.size + 1) 57 5 (ansF 0 0 (.slice none 0 0) (.slice none 0 0) (.slice none 0 0))
  a : Arr wx w.heap.size 59 9 c.f
section
variable {w w2 wx wy : World} {X : List Nat} {N0 sv rT bB gT gS gD cap gy cy : Nat} {v v' : Value} {x x' : GS} {y : GS × GA} {c : CmdT}
theorem RCm.next (h : RCm w X N0 sv rT bB gT gS gD cap gy cy v x c wx) (m : Mod [] wx wy) : RCm w X N0 sv rT bB gT gS gD cap gy cy v x c wy :=
  ⟨h.s.mod0 m, h.m.trans m.nil, h.z.mod m (by simp), h.a.mod m (by simp)⟩
theorem RCm.own (h : RCm w X N0 sv rT bB gT gS gD cap gy cy v x c wx) (h0 : ∀ z, z ∈ RbL sv rT bB gT gS gD gy → z < w.heap.size) (s : RSv wy X N0 sv rT bB gT gS gD cap gy cy v' x') {S : List Nat} (m : Mod S wx wy) (hS : ∀ z, z ∈ S → z ∈ RbL sv rT bB gT gS gD gy) : RCm w X N0 sv rT bB gT gS gD cap gy cy v' x' c wy := by
  have key : ∀ k, w.heap.size ≤ k → k ∉ S := fun k hk e => by have := h0 k (hS k e); omega
  exact ⟨s, h.m.trans (m.mono hS), h.z.mod m (key _ (by omega)), h.a.mod m (key _ (by omega))⟩
theorem rcm_start (c : CmdT) (hS : RSv w X N0 sv rT bB gT gS gD cap gy cy v x) :
    RCm w X N0 sv rT bB gT gS gD cap gy cy v x c ((w.alloc (.cells c.arr 59)).alloc (.cells zeroAns 57)) := by
  have A1 := rcmd_new w 59 c
  have Z1 := rans_new (w.alloc (.cells c.arr 59)) 0 0 (.slice none 0 0) (.slice none 0 0) (.slice none 0 0)
  have e1 : (w.alloc (.cells c.arr 59)).heap.size = w.heap.size + 1 := by simp
  rw [e1] at Z1
  have m : Mod [] w ((w.alloc (.cells c.arr 59)).alloc (.cells zeroAns 57)) := ((Mod.refl _ _).alloc _).alloc _
  exact ⟨hS.mod0 m, m.nil, Z1, A1.alloc _⟩
theorem RCm.err {e : Int} (h : RCm w X N0 sv rT bB gT gS gD cap gy cy v x c wx) (hy : y = (x, .err e)) :
    RDoP w X N0 sv rT bB gT gS gD cap gy cy y (.returned (.agg #[.int .i64 e, .int .i64 0, .slice none 0 0, .slice none 0 0, .slice none 0 0])) (put5 wx (w.heap.size + 1) (.int .i64 e) (.int .i64 0) (.slice none 0 0) (.slice none 0 0) (.slice none 0 0)) :=
  rdo_err (by omega) h.s hy h.m h.z
/-- Behind serving: the answer. -/
theorem RCm.served {zs : List Nat} {gv dv : Value} (h : RCm w X N0 sv rT bB gT gS gD cap gy cy v' (GS.served x') c wx) (hg : wx.ownsRow 0 105 5 gv x'.srv.out.length (gcells x'.srv.out)) (hd : wx.ownsRow 0 3 1 dv zs.length (intsOf zs)) :
    RDoP w X N0 sv rT bB gT gS gD cap gy cy (x'.serve zs) (.returned (.agg #[.int .i64 0, .int .i64 0, gv, .slice none 0 0, dv])) (put5 wx (w.heap.size + 1) (.int .i64 0) (.int .i64 0) gv (.slice none 0 0) dv) :=
  rdo_end (y := x'.serve zs) (by omega) h.s h.m h.z hg (own_nil _ _ _ _) hd
end
theorem sv_in {sv rT bB gT gS gD gy : Nat} : ∀ z, z ∈ [sv, rT] → z ∈ RbL sv rT bB gT gS gD gy := fun z hz => by
  simp at hz
  rcases hz with e | e <;> subst e <;> simp [RbL]
/-- A list that is filtered, as far as it has come. -/
structure FltI (w1 wr : World) (v : Value) (L : List HoldT) : Prop where
  own : wr.ownsRow w1.heap.size 39 4 v L.length (hcells L)
  md : Mod [] w1 wr
theorem flt_zero (w1 : World) (L : List HoldT) (p : HoldT → Bool) : FltI w1 (w1.alloc (.cells #[] 39)) (.slice (some ⟨w1.heap.size, 0, none⟩) 0 0) ((L.take 0).filter p) :=
  ⟨own_empty w1 _ _ _ (Nat.le_refl _), (Mod.refl [] w1).alloc _⟩
theorem flt_take {L : List HoldT} {p : HoldT → Bool} {i : Nat} {x : HoldT} (hx : L[i]? = some x) : (L.take (i + 1)).filter p = (L.take i).filter p ++ (if p x = true then [x] else []) := by
  have hlt := (List.getElem?_eq_some_iff.1 hx).1
  rw [List.take_succ_eq_append_getElem hlt, List.filter_append, (List.getElem?_eq_some_iff.1 hx).2]
  congr 1
  by_cases hp : p x = true
  · simp [hp]
  · simp [hp]
theorem flt_more {w1 wr w9 : World} {v : Value} {L : List HoldT} {p : HoldT → Bool} {i g cap : Nat} {x : HoldT} (h : FltI w1 wr v ((L.take i).filter p)) (hx : L[i]? = some x) (hp : p x = true) {w2 : World} (m2 : Mod [] wr w2) (m : Mod v.ownBlock.toList w2 w9)
    (ho : w9.ownsRow w1.heap.size 39 4 (.slice (some ⟨g, 0, none⟩) (((L.take i).filter p).length + 1) cap) (((L.take i).filter p).length + 1) (hcells ((L.take i).filter p) ++ hcell x)) :
    FltI w1 w9 (.slice (some ⟨g, 0, none⟩) (((L.take i).filter p).length + 1) cap) ((L.take (i + 1)).filter p) := by
  rw [flt_take hx, if_pos hp]
  refine ⟨?_, (h.md.trans m2).fresh m (fun q hq => .inr (own_far h.own q hq))⟩
  rw [hcells_append, List.length_append, show hcells [x] = hcell x by simp [hcells]]
  exact ho
theorem flt_skip {w1 wr w9 : World} {v : Value} {L : List HoldT} {p : HoldT → Bool} {i : Nat} {x : HoldT} (h : FltI w1 wr v ((L.take i).filter p)) (hx : L[i]? = some x) (hp : p x = false) (m : Mod [] wr w9) : FltI w1 w9 v ((L.take (i + 1)).filter p) := by
  rw [flt_take hx, if_neg (by simp [hp]), List.append_nil]
  exact ⟨own_mod h.own m (fun _ _ => by simp), h.md.trans m⟩
set_option maxRecDepth 100000 in
set_option maxHeartbeats 8000000 in
theorem rcancel_calls (w : World) (X : List Nat) (N0 sv rT bB gT gS gD cap gy cy : Nat) (v : Value) (x : GS) (c : CmdT) (hS : RSv w X N0 sv rT bB gT gS gD cap gy cy v x) (hX : ∀ z, z ∈ X → z < w.heap.size) :
    Calls Tryd.prog 51 #[.pointer (some ⟨sv, 0, none⟩), .agg c.arr] w (RDoP w X N0 sv rT bB gT gS gD cap gy cy (x.cancel c)) := by
  obtain ⟨w1, hw1⟩ : ∃ w1, w1 = (w.alloc (.cells c.arr 59)).alloc (.cells zeroAns 57) := ⟨_, rfl⟩
  have R1 := rcm_start c hS
  rw [← hw1] at R1
  have HR1 := Lib.hid R1
  have HW1 := Lib.hid hw1
  have HLT := Lib.hid hS.lt
  have HX := Lib.hid hX
  have HIV := Lib.hid hS.inv
  have hsz := R1.z.lt
  have y1 := R1.a.cell 1 (by omega)
  simp only [CmdT.f, if_true, if_false, Nat.reduceEqDiff] at y1
  have C1 := Lib.hid (rclient_calls w1 c.c)
  obtain ⟨p0, cap0, rfl, hcap1, hcap2, hcell⟩ := own_holds' R1.s.wt
  have HC := Lib.hid hcell
  have h32 := hS.inv.len
  rw [hw1] at y1
  clear hw1 R1 hS hX hcell
  unfold zeroAns at HW1 y1
  unfold CmdT.arr at HW1 y1 ⊢
  cases hc : inC8 c.c with
  | false =>
    rw [hc] at C1
    have E := Lib.hid (show x.cancel c = (x, .err 1) by unfold GS.cancel; rw [if_pos hc])
    clear hc
    go_enter Tryd.func51, Tryd.ntmps51
    go_wp2_with fail
    rw [← HW1.out] at *
    refine C1.out.mono ?_
    rintro e w2 ⟨rfl, rfl⟩
    obtain ⟨g0, g1, g2, g3, g4, g5, g6, g7, g8, g9⟩ := rans_facts HR1.out.z
    go_wp2
    exact bodyPost_ret (rans_res rfl rfl (put5_arr HR1.out.z _ _ _ _ _)) rfl (HR1.out.err E.out)
  | true =>
    rw [hc] at C1
    have E1 := Lib.hid (show ∀ z, (if inC8 c.c = false then (x, GA.err 1) else z) = z from fun z => if_neg (by simp [hc]))
    have HINC := Lib.hid hc
    obtain ⟨p, hp⟩ : ∃ p : HoldT → Bool, p = fun h => decide (¬ (h.2.2.1 : Int) = c.c) := ⟨_, rfl⟩
    have HP := Lib.hid hp
    have F0 := Lib.hid (flt_zero w1 x.wl p)
    clear hc hp
    go_enter Tryd.func51, Tryd.ntmps51
    go_wp2_with fail
    rw [← HW1.out] at *
    refine C1.out.mono ?_
    rintro e w2 ⟨rfl, rfl⟩
    go_wp2
    go_loopw [5, 6] (fun lv i wr => ∃ j : Nat, j ≤ x.wl.length ∧ i = .int .i64 j ∧ FltI w1 wr lv ((x.wl.take j).filter p)) (fun _ i _ => x.wl.length - (intOf i).toNat)
    case atStart => exact ⟨0, Nat.zero_le _, rfl, F0.out⟩
    case round =>
      obtain ⟨j, hj, rfl, hI⟩ := hrel
      have R2 := Lib.hid (HR1.out.next hI.md)
      have c2r := R2.out.s.c2
      have hsr : sv < wr.heap.size := R2.out.s.arr.lt
      by_cases hlt : j < x.wl.length
      · have i0 : (0 : Int) ≤ (j : Int) := by omega
        have i1 : (j : Int) < (x.wl.length : Int) := by omega
        obtain ⟨g, rfl, hg0, hg1, hx⟩ := HC.out (by omega)
        obtain ⟨h, hh⟩ : ∃ h, x.wl[j]? = some h := ⟨_, List.getElem?_eq_getElem hlt⟩
        obtain ⟨z0, z1, z2, z3⟩ := hx j h hh
        replace z0 := hI.md.cell' z0 (by simp)
        replace z1 := hI.md.cell' z1 (by simp)
        replace z2 := hI.md.cell' z2 (by simp)
        replace z3 := hI.md.cell' z3 (by simp)
        have y1 := R2.out.a.cell 1 (by omega)
        simp only [CmdT.f, if_true, if_false, Nat.reduceEqDiff] at y1
        have HH := Lib.hid hh
        have HI := Lib.hid hI
        have KP := Lib.hid (show p h = decide (¬ (h.2.2.1 : Int) = c.c) by rw [HP.out])
        have hlen : ((x.wl.take j).filter p).length ≤ 32 := Nat.le_trans (Nat.le_trans (List.length_filter_le _ _) (List.length_take_le _ _)) (by omega)
        clear hx hh hI
        by_cases he : (h.2.2.1 : Int) = c.c
        · have he1 : ((h.2.2.1 : Int) != c.c) = false := by simpa using he
          have FIN := Lib.hid (fun w9 (m : Mod [] wr w9) => flt_skip HI.out HH.out (by rw [KP.out]; simpa using he) m)
          clear he
          go_wp2
          go_quiet (fail)
          go_wp2
          go_roundw
          case rel => exact ⟨j + 1, by omega, by go_num, FIN.out _ ((Mod.refl _ _).drewN _)⟩
          case measure => simp [intOf]; omega
        · have he1 : ((h.2.2.1 : Int) != c.c) = true := by simpa using he
          have HE := Lib.hid (show p h = true by rw [KP.out]; simpa using he)
          clear he
          go_wp2
          go_quiet (fail)
          have mq : Mod [] wr (wr.drewN nq) := (Mod.refl _ _).drewN _
          have HMQ := Lib.hid mq
          replace c2r := mq.cell' c2r (by simp)
          replace z0 := mq.cell' z0 (by simp)
          replace z1 := mq.cell' z1 (by simp)
          replace z2 := mq.cell' z2 (by simp)
          replace z3 := mq.cell' z3 (by simp)
          have hsz9 := mq.size
          clear mq y1
          generalize wr.drewN nq = wz at *
          have HO := Lib.hid (own_mod HI.out.own (HMQ.out.alloc (.cells #[.int .i64 h.1, .int .i64 h.2.1, .int .i64 h.2.2.1, .int .i64 h.2.2.2] 39)) (fun _ _ => by simp))
          have HN := Lib.hid (hnews_at wz h)
          go_wp2_with (at_builtin; refine app1 w1.heap.size 31 39 (.agg #[.int .i64 0, .int .i64 0, .int .i64 0, .int .i64 0]) 4 32 Tryd.underlying31 info_hold rfl (by omega) (by omega) rfl _ _ rfl u5 _ _ rfl HO.out wz.heap.size (hcell h) rfl rfl HN.out (by simp [hcell, Value.oneCell']) (by omega) (by have := HI.out.md.size; simp; omega) ?_; intro g1 cap1 w3 ho2 hm2 hgg hbg)
          have FIN := Lib.hid (flt_more HI.out HH.out HE.out (HMQ.out.alloc _) hm2 ho2)
          clear ho2 hm2 hgg hbg
          go_roundw
          case rel => exact ⟨j + 1, by omega, by go_num, FIN.out⟩
          case measure => simp [intOf]; omega
      · obtain rfl : j = x.wl.length := by omega
        have hlt' : decide ((x.wl.length : Int) < (x.wl.length : Int)) = false := by simp
        have HI := (show FltI w1 wr u5 (x.wl.filter p) by have := hI; rw [List.take_length] at this; exact this)
        obtain ⟨fl, hfl⟩ : ∃ fl, fl = x.wl.filter p := ⟨_, rfl⟩
        rw [← hfl] at HI
        obtain ⟨p5, c5, rfl⟩ := own_len HI.own
        have HI := Lib.hid HI
        have EF := Lib.hid (show (x.wl.filter fun h => decide (¬ (h.2.2.1 : Int) = c.c)) = fl by rw [hfl, HP.out])
        clear hI hfl
        by_cases hl : fl.length = x.wl.length
        · have E := Lib.hid (show x.cancel c = (x, .err 3) by
            unfold GS.cancel
            rw [E1.out, EF.out, if_pos hl])
          have t1 : ((fl.length : Int) == (x.wl.length : Int)) = true := by simp; omega
          obtain ⟨g0, g1, g2, g3, g4, g5, g6, g7, g8, g9⟩ := rans_facts R2.out.z
          clear hl
          go_wp2
          exact bodyPost_ret (rans_res rfl rfl (put5_arr R2.out.z _ _ _ _ _)) rfl (R2.out.err E.out)
        · have E := Lib.hid (show x.cancel c = GS.serve { x with wl := fl } [] by
            unfold GS.cancel
            rw [E1.out, EF.out, if_neg hl])
          have t1 : ((fl.length : Int) == (x.wl.length : Int)) = false := by simp; omega
          have f2r := R2.out.s.arr.free 2
          obtain ⟨w3, hw3⟩ : ∃ w3, w3 = wr.setCell ⟨sv, 2, none⟩ (.slice p5 fl.length c5) := ⟨_, rfl⟩
          have s3 : RSv w3 X N0 sv rT bB gT gS gD cap gy cy (.slice p5 fl.length c5) { x with wl := fl } := by
            rw [hw3]
            exact RSv.setV (l := fl) (n := x.last) R2.out.s (own_base HI.out.own (Nat.zero_le _)) (fun k hk e => by
              have h1 := (own_lt' HI.out.own k hk).1
              have h2 := HX.out k e
              have h3 := HR1.out.m.size
              omega) (inv_filter HIV.out _ EF.out.symm rfl rfl) (fun j hj => by
              match j, hj with
              | 0, _ | 1, _ | 2, _ | 3, _ | 4, _ => rfl)
          have R3 := Lib.hid (R2.out.own HLT.out s3 (show Mod [sv] wr w3 by rw [hw3]; exact (Mod.refl _ _).setCell (.inl (by simp)) _) (fun z hz => by have := List.mem_singleton.1 hz; subst this; simp [RbL]))
          have SV := Lib.hid (rserve_calls w3 X N0 sv rT bB gT gS gD cap gy cy _ _ s3 (fun z hz => by have := HX.out z hz; have := R3.out.m.size; omega))
          have HW3 := Lib.hid hw3
          clear hl hw3 s3
          go_upto_region 12 with (fail)
          rw [← HW3.out]
          clear c2r f2r
          go_wp2_with fail
          refine SV.out.mono ?_
          rintro e w4 ⟨gv, v', rfl, og, s4, m4⟩
          obtain ⟨p6, c6, rfl⟩ := own_len og
          have R4 := Lib.hid (R3.out.own HLT.out s4 m4 sv_in)
          have FIN := Lib.hid (RCm.served (zs := []) R4.out (own_base og (Nat.zero_le _)) (own_nil _ _ _ _))
          obtain ⟨g0, g1, g2, g3, g4, g5, g6, g7, g8, g9⟩ := rans_facts R4.out.z
          clear og s4 m4
          go_wp2
          exact bodyPost_ret (rans_res rfl rfl (put5_arr R4.out.z _ _ _ _ _)) rfl (by rw [E.out]; exact FIN.out)
end Go.Proofs.YtijjbkkcienfgaaDoor.Rf
namespace Go.Proofs.YtijjbkkcienfgaaDoor.Rf
open Go.RowKit
set_option linter.unusedVariables false
set_option linter.unusedSimpArgs false
attribute [local go_sem ↓] Go.wp_at_zero Go.wp_at_succ

theorem some_filter {t : Nat → Nat → Nat} (c : Int) : someL t 0 256 (pOf c) = (listL t).filter fun h => decide ((h.2.2.1 : Int) = c) := by
  have row : ∀ (k : Nat) (l : List Run), rowHolds (pOf c) k l = (rowHolds pAll k l).filter fun h => decide ((h.2.2.1 : Int) = c) := by
    intro k l
    induction l with
    | nil => rfl
    | cons r l ih =>
      show holdOf (pOf c) k r ++ rowHolds (pOf c) k l = (holdOf pAll k r ++ rowHolds pAll k l).filter _
      rw [List.filter_append, ih]
      congr 1
      by_cases e : (k : Int) = c
      · simp [holdOf, pOf, pAll, e]
      · simp [holdOf, pOf, pAll, e]
  have all : ∀ N, holdsTo t 0 256 (pOf c) N = (holdsTo t 0 256 pAll N).filter fun h => decide ((h.2.2.1 : Int) = c) := by
    intro N
    induction N with
    | zero => rfl
    | succ N ih =>
      show holdsTo t 0 256 (pOf c) N ++ rowHolds (pOf c) N (runsL (t N) 0 256) = (holdsTo t 0 256 pAll N ++ rowHolds pAll N (runsL (t N) 0 256)).filter _
      rw [List.filter_append, ih, row]
  exact all 8
theorem dead_in {d : Nat → Bool} {c : Int} (h : deadV d c = true) : 0 ≤ c ∧ c < 8 := by
  unfold deadV at h
  split at h
  · cases h
  · rename_i hc
    have hc : inC c = true := by simpa using hc
    exact inC8_iff.1 hc
theorem lives_in {u : Nat → Int} {d : Nat → Bool} {c : Int} (h : livesB u d c = true) : 0 ≤ c ∧ c < 8 := by
  unfold livesB untilV at h
  by_cases hc : inC c = true
  · exact inC8_iff.1 hc
  · have hc : inC c = false := by simpa using hc
    simp [hc] at h
set_option maxRecDepth 100000 in
set_option maxHeartbeats 8000000 in
theorem rdo_ask (w : World) (X : List Nat) (N0 sv rT bB gT gS gD cap gy cy : Nat) (v : Value) (x : GS) (c : CmdT) (hS : RSv w X N0 sv rT bB gT gS gD cap gy cy v x) (hX : ∀ z, z ∈ X → z < w.heap.size) (hk : c.k = 1) :
    Calls Tryd.prog 21 #[.pointer (some ⟨sv, 0, none⟩), .agg c.arr] w (RDoP w X N0 sv rT bB gT gS gD cap gy cy (x.ask c)) := by
  obtain ⟨w1, hw1⟩ : ∃ w1, w1 = (w.alloc (.cells c.arr 59)).alloc (.cells zeroAns 57) := ⟨_, rfl⟩
  have R1 := rcm_start c hS
  rw [← hw1] at R1
  have HR1 := Lib.hid R1
  have HW1 := Lib.hid hw1
  have HLT := Lib.hid hS.lt
  have HX := Lib.hid hX
  have HX1 := Lib.hid (show ∀ z, z ∈ X → z < w1.heap.size from fun z hz => by have := hX z hz; have := R1.m.size; omega)
  have HIV := Lib.hid hS.inv
  have HNE := Lib.hid hS.ne
  have hsz := R1.z.lt
  have y0 := R1.a.cell 0 (by omega)
  have y1 := R1.a.cell 1 (by omega)
  have y2 := R1.a.cell 2 (by omega)
  have y3 := R1.a.cell 3 (by omega)
  have y4 := R1.a.cell 4 (by omega)
  have y5 := R1.a.cell 5 (by omega)
  have y6 := R1.a.cell 6 (by omega)
  have y7 := R1.a.cell 7 (by omega)
  have y8 := R1.a.cell 8 (by omega)
  simp only [CmdT.f, if_true, if_false, Nat.reduceEqDiff] at y0 y1 y2 y3 y4 y5 y6 y7 y8
  rw [hk] at y0
  have C := rask_calls w1 X N0 sv rT bB gT gS gD cap gy cy v x c R1.s (fun z hz => HX1.out z hz)
  unfold CmdT.arr at C
  rw [hk] at C
  have HCC := Lib.hid C
  clear C
  obtain ⟨yy, hyy⟩ : ∃ yy, yy = x.ask c := ⟨_, rfl⟩
  rw [← hyy] at HCC
  rw [← hyy]
  clear hyy
  rw [hw1] at y0 y1 y2 y3 y4 y5 y6 y7 y8
  clear hw1 R1 hS hX
  unfold zeroAns at HW1 y0 y1 y2 y3 y4 y5 y6 y7 y8
  unfold CmdT.arr at HW1 y0 y1 y2 y3 y4 y5 y6 y7 y8 ⊢
  rw [hk] at HW1 y0 y1 y2 y3 y4 y5 y6 y7 y8 ⊢
  clear hk
  go_enter Tryd.func21, Tryd.ntmps21
  go_wp2_with fail
  rw [← HW1.out] at *
  refine HCC.out.mono ?_
  rintro e w2 ⟨gv, rv, dv, v', rfl, og, orr, od, s2, m2⟩
  obtain ⟨p1, c1, rfl⟩ := own_len og
  obtain ⟨p2, c2, rfl⟩ := own_len orr
  obtain ⟨p3, c3, rfl⟩ := own_len od
  have R2 := Lib.hid (HR1.out.own HLT.out s2 m2 (fun z hz => hz))
  have O := Lib.hid (And.intro og (And.intro orr od))
  obtain ⟨g0, g1, g2, g3, g4, g5, g6, g7, g8, g9⟩ := rans_facts R2.out.z
  clear og orr od s2 m2
  go_wp2
  (try simp only [Exit.inBlock, Exit.then])
  exact bodyPost_ret (rans_res rfl rfl (put5_arr R2.out.z _ _ _ _ _)) rfl (rdo_end (by omega) R2.out.s R2.out.m R2.out.z O.out.1 O.out.2.1 O.out.2.2)
set_option maxRecDepth 100000 in
set_option maxHeartbeats 8000000 in
theorem rdo_cancel (w : World) (X : List Nat) (N0 sv rT bB gT gS gD cap gy cy : Nat) (v : Value) (x : GS) (c : CmdT) (hS : RSv w X N0 sv rT bB gT gS gD cap gy cy v x) (hX : ∀ z, z ∈ X → z < w.heap.size) (hk : c.k = 8) :
    Calls Tryd.prog 21 #[.pointer (some ⟨sv, 0, none⟩), .agg c.arr] w (RDoP w X N0 sv rT bB gT gS gD cap gy cy (x.cancel c)) := by
  obtain ⟨w1, hw1⟩ : ∃ w1, w1 = (w.alloc (.cells c.arr 59)).alloc (.cells zeroAns 57) := ⟨_, rfl⟩
  have R1 := rcm_start c hS
  rw [← hw1] at R1
  have HR1 := Lib.hid R1
  have HW1 := Lib.hid hw1
  have HLT := Lib.hid hS.lt
  have HX := Lib.hid hX
  have HX1 := Lib.hid (show ∀ z, z ∈ X → z < w1.heap.size from fun z hz => by have := hX z hz; have := R1.m.size; omega)
  have HIV := Lib.hid hS.inv
  have HNE := Lib.hid hS.ne
  have hsz := R1.z.lt
  have y0 := R1.a.cell 0 (by omega)
  have y1 := R1.a.cell 1 (by omega)
  have y2 := R1.a.cell 2 (by omega)
  have y3 := R1.a.cell 3 (by omega)
  have y4 := R1.a.cell 4 (by omega)
  have y5 := R1.a.cell 5 (by omega)
  have y6 := R1.a.cell 6 (by omega)
  have y7 := R1.a.cell 7 (by omega)
  have y8 := R1.a.cell 8 (by omega)
  simp only [CmdT.f, if_true, if_false, Nat.reduceEqDiff] at y0 y1 y2 y3 y4 y5 y6 y7 y8
  rw [hk] at y0
  have C := rcancel_calls w1 X N0 sv rT bB gT gS gD cap gy cy v x c R1.s (fun z hz => HX1.out z hz)
  unfold CmdT.arr at C
  rw [hk] at C
  have HCC := Lib.hid C
  clear C
  obtain ⟨yy, hyy⟩ : ∃ yy, yy = x.cancel c := ⟨_, rfl⟩
  rw [← hyy] at HCC
  rw [← hyy]
  clear hyy
  rw [hw1] at y0 y1 y2 y3 y4 y5 y6 y7 y8
  clear hw1 R1 hS hX
  unfold zeroAns at HW1 y0 y1 y2 y3 y4 y5 y6 y7 y8
  unfold CmdT.arr at HW1 y0 y1 y2 y3 y4 y5 y6 y7 y8 ⊢
  rw [hk] at HW1 y0 y1 y2 y3 y4 y5 y6 y7 y8 ⊢
  clear hk
  go_enter Tryd.func21, Tryd.ntmps21
  go_wp2_with fail
  rw [← HW1.out] at *
  refine HCC.out.mono ?_
  rintro e w2 ⟨gv, rv, dv, v', rfl, og, orr, od, s2, m2⟩
  obtain ⟨p1, c1, rfl⟩ := own_len og
  obtain ⟨p2, c2, rfl⟩ := own_len orr
  obtain ⟨p3, c3, rfl⟩ := own_len od
  have R2 := Lib.hid (HR1.out.own HLT.out s2 m2 (fun z hz => hz))
  have O := Lib.hid (And.intro og (And.intro orr od))
  obtain ⟨g0, g1, g2, g3, g4, g5, g6, g7, g8, g9⟩ := rans_facts R2.out.z
  clear og orr od s2 m2
  go_wp2
  (try simp only [Exit.inBlock, Exit.then])
  exact bodyPost_ret (rans_res rfl rfl (put5_arr R2.out.z _ _ _ _ _)) rfl (rdo_end (by omega) R2.out.s R2.out.m R2.out.z O.out.1 O.out.2.1 O.out.2.2)
set_option maxRecDepth 100000 in
set_option maxHeartbeats 8000000 in
theorem rdo_release (w : World) (X : List Nat) (N0 sv rT bB gT gS gD cap gy cy : Nat) (v : Value) (x : GS) (c : CmdT) (hS : RSv w X N0 sv rT bB gT gS gD cap gy cy v x) (hX : ∀ z, z ∈ X → z < w.heap.size) (hk : c.k = 2) :
    Calls Tryd.prog 21 #[.pointer (some ⟨sv, 0, none⟩), .agg c.arr] w (RDoP w X N0 sv rT bB gT gS gD cap gy cy (x.release c)) := by
  obtain ⟨w1, hw1⟩ : ∃ w1, w1 = (w.alloc (.cells c.arr 59)).alloc (.cells zeroAns 57) := ⟨_, rfl⟩
  have R1 := rcm_start c hS
  rw [← hw1] at R1
  have HR1 := Lib.hid R1
  have HW1 := Lib.hid hw1
  have HLT := Lib.hid hS.lt
  have HX := Lib.hid hX
  have HX1 := Lib.hid (show ∀ z, z ∈ X → z < w1.heap.size from fun z hz => by have := hX z hz; have := R1.m.size; omega)
  have HIV := Lib.hid hS.inv
  have HNE := Lib.hid hS.ne
  have hsz := R1.z.lt
  have y0 := R1.a.cell 0 (by omega)
  have y1 := R1.a.cell 1 (by omega)
  have y5 := R1.a.cell 5 (by omega)
  have y6 := R1.a.cell 6 (by omega)
  simp only [CmdT.f, if_true, if_false, Nat.reduceEqDiff] at y0 y1 y5 y6
  rw [hk] at y0
  have C1 := Lib.hid (rclient_calls w1 c.c)
  have C2 := Lib.hid (rcut_calls w1.drew X rT x.t c.c c.a c.b (R1.s.mod0 (Mod.refl [] w1).drew).tb HX1.out)
  have KS := Lib.hid (And.intro R1.s.c0 (And.intro y1 (And.intro y5 y6)))
  have n1 : sv ∉ [rT] := by simpa using HNE.out.1
  have n2 : w.heap.size ∉ [rT] := fun e => by have := List.mem_singleton.1 e; have := HLT.out rT (by simp [RbL]); omega
  have KSM := Lib.hid (fun w' (m : Mod [rT] w1.drew w') => And.intro (m.cell' KS.out.1 n1) (And.intro (m.cell' KS.out.2.1 n2) (And.intro (m.cell' KS.out.2.2.1 n2) (m.cell' KS.out.2.2.2 n2))))
  clear n1 n2
  rw [hw1] at y0 y1 y5 y6
  clear hw1 R1 hS hX
  unfold zeroAns at HW1 y0 y1 y5 y6
  unfold CmdT.arr at HW1 y0 y1 y5 y6 ⊢
  rw [hk] at HW1 y0 y1 y5 y6 ⊢
  clear hk
  cases hc : inC8 c.c with
  | false =>
    rw [hc] at C1
    have E := Lib.hid (show x.release c = (x, .err 1) by unfold GS.release; rw [if_pos hc])
    clear hc
    go_enter Tryd.func21, Tryd.ntmps21
    go_wp2_with fail
    rw [← HW1.out] at *
    refine C1.out.mono ?_
    rintro e w2 ⟨rfl, rfl⟩
    obtain ⟨g0, g1, g2, g3, g4, g5, g6, g7, g8, g9⟩ := rans_facts HR1.out.z
    go_wp2
    (try simp only [Exit.inBlock, Exit.then])
    exact bodyPost_ret (rans_res rfl rfl (put5_arr HR1.out.z _ _ _ _ _)) rfl (HR1.out.err E.out)
  | true =>
    rw [hc] at C1
    have E := Lib.hid (show x.release c = GS.serve { x with t := Go.Proofs.YtijjbkkcienfgaaDoor.setT x.t c.c c.a c.b (fun _ => 0) } [] by unfold GS.release; rw [if_neg (by simp [hc])])
    clear hc
    go_enter Tryd.func21, Tryd.ntmps21
    go_wp2_with fail
    rw [← HW1.out] at *
    refine C1.out.mono ?_
    rintro e w2 ⟨rfl, rfl⟩
    go_wp2
    first
      | (go_region_held3 (fun w' => w'.cell? ⟨sv, 0, none⟩ = some (.pointer (some ⟨rT, 0, none⟩)) ∧ w'.cell? ⟨w.heap.size, 1, none⟩ = some (.int .i64 c.c) ∧ w'.cell? ⟨w.heap.size, 5, none⟩ = some (.int .i64 c.a) ∧ w'.cell? ⟨w.heap.size, 6, none⟩ = some (.int .i64 c.b))
          (first | exact KS.out | exact KSM.out _ (by assumption))
          (first
            | (go_at_call 41; (with_reducible refine C2.out.mono ?_); rintro e w2 ⟨v2, rfl, o2, t2, m2⟩)))
      | fail
    have s2 := RSv.setT (HR1.out.s.mod0 (Mod.refl [] w1).drew) t2 m2
    have R2 := Lib.hid (HR1.out.own HLT.out s2 (Mod.of_drew m2) (fun z hz => by have := List.mem_singleton.1 hz; subst this; simp [RbL]))
    have SV := Lib.hid (rserve_calls w2 X N0 sv rT bB gT gS gD cap gy cy _ _ s2 (fun z hz => by have := HX.out z hz; have := R2.out.m.size; omega))
    clear o2 t2 m2 s2 KS KSM
    go_wp2_with fail
    refine SV.out.mono ?_
    rintro e w4 ⟨gv, v', rfl, og, s4, m4⟩
    obtain ⟨p6, c6, rfl⟩ := own_len og
    have R4 := Lib.hid (R2.out.own HLT.out s4 m4 sv_in)
    have FIN := Lib.hid (RCm.served (zs := []) R4.out (own_base og (Nat.zero_le _)) (own_nil _ _ _ _))
    obtain ⟨g0, g1, g2, g3, g4, g5, g6, g7, g8, g9⟩ := rans_facts R4.out.z
    clear og s4 m4
    go_wp2
    (try simp only [Exit.inBlock, Exit.then])
    exact bodyPost_ret (rans_res rfl rfl (put5_arr R4.out.z _ _ _ _ _)) rfl (by rw [E.out]; exact FIN.out)
set_option maxRecDepth 100000 in
set_option maxHeartbeats 8000000 in
theorem rdo_weaken (w : World) (X : List Nat) (N0 sv rT bB gT gS gD cap gy cy : Nat) (v : Value) (x : GS) (c : CmdT) (hS : RSv w X N0 sv rT bB gT gS gD cap gy cy v x) (hX : ∀ z, z ∈ X → z < w.heap.size) (hk : c.k = 3) :
    Calls Tryd.prog 21 #[.pointer (some ⟨sv, 0, none⟩), .agg c.arr] w (RDoP w X N0 sv rT bB gT gS gD cap gy cy (x.weaken c)) := by
  obtain ⟨w1, hw1⟩ : ∃ w1, w1 = (w.alloc (.cells c.arr 59)).alloc (.cells zeroAns 57) := ⟨_, rfl⟩
  have R1 := rcm_start c hS
  rw [← hw1] at R1
  have HR1 := Lib.hid R1
  have HW1 := Lib.hid hw1
  have HLT := Lib.hid hS.lt
  have HX := Lib.hid hX
  have HX1 := Lib.hid (show ∀ z, z ∈ X → z < w1.heap.size from fun z hz => by have := hX z hz; have := R1.m.size; omega)
  have HIV := Lib.hid hS.inv
  have HNE := Lib.hid hS.ne
  have hsz := R1.z.lt
  have y0 := R1.a.cell 0 (by omega)
  have y1 := R1.a.cell 1 (by omega)
  have y5 := R1.a.cell 5 (by omega)
  have y6 := R1.a.cell 6 (by omega)
  simp only [CmdT.f, if_true, if_false, Nat.reduceEqDiff] at y0 y1 y5 y6
  rw [hk] at y0
  have C1 := Lib.hid (rclient_calls w1 c.c)
  have C2 := Lib.hid (rweaken_calls w1.drew X rT x.t c.c c.a c.b (R1.s.mod0 (Mod.refl [] w1).drew).tb HX1.out)
  have KS := Lib.hid (And.intro R1.s.c0 (And.intro y1 (And.intro y5 y6)))
  have n1 : sv ∉ [rT] := by simpa using HNE.out.1
  have n2 : w.heap.size ∉ [rT] := fun e => by have := List.mem_singleton.1 e; have := HLT.out rT (by simp [RbL]); omega
  have KSM := Lib.hid (fun w' (m : Mod [rT] w1.drew w') => And.intro (m.cell' KS.out.1 n1) (And.intro (m.cell' KS.out.2.1 n2) (And.intro (m.cell' KS.out.2.2.1 n2) (m.cell' KS.out.2.2.2 n2))))
  clear n1 n2
  rw [hw1] at y0 y1 y5 y6
  clear hw1 R1 hS hX
  unfold zeroAns at HW1 y0 y1 y5 y6
  unfold CmdT.arr at HW1 y0 y1 y5 y6 ⊢
  rw [hk] at HW1 y0 y1 y5 y6 ⊢
  clear hk
  cases hc : inC8 c.c with
  | false =>
    rw [hc] at C1
    have E := Lib.hid (show x.weaken c = (x, .err 1) by unfold GS.weaken; rw [if_pos hc])
    clear hc
    go_enter Tryd.func21, Tryd.ntmps21
    go_wp2_with fail
    rw [← HW1.out] at *
    refine C1.out.mono ?_
    rintro e w2 ⟨rfl, rfl⟩
    obtain ⟨g0, g1, g2, g3, g4, g5, g6, g7, g8, g9⟩ := rans_facts HR1.out.z
    go_wp2
    (try simp only [Exit.inBlock, Exit.then])
    exact bodyPost_ret (rans_res rfl rfl (put5_arr HR1.out.z _ _ _ _ _)) rfl (HR1.out.err E.out)
  | true =>
    rw [hc] at C1
    have E := Lib.hid (show x.weaken c = GS.serve { x with t := Go.Proofs.YtijjbkkcienfgaaDoor.setT x.t c.c c.a c.b (fun m => min m 1) } [] by unfold GS.weaken; rw [if_neg (by simp [hc])])
    clear hc
    go_enter Tryd.func21, Tryd.ntmps21
    go_wp2_with fail
    rw [← HW1.out] at *
    refine C1.out.mono ?_
    rintro e w2 ⟨rfl, rfl⟩
    go_wp2
    first
      | (go_region_held3 (fun w' => w'.cell? ⟨sv, 0, none⟩ = some (.pointer (some ⟨rT, 0, none⟩)) ∧ w'.cell? ⟨w.heap.size, 1, none⟩ = some (.int .i64 c.c) ∧ w'.cell? ⟨w.heap.size, 5, none⟩ = some (.int .i64 c.a) ∧ w'.cell? ⟨w.heap.size, 6, none⟩ = some (.int .i64 c.b))
          (first | exact KS.out | exact KSM.out _ (by assumption))
          (first
            | (go_at_call 42; (with_reducible refine C2.out.mono ?_); rintro e w2 ⟨v2, rfl, o2, t2, m2⟩)))
      | fail
    have s2 := RSv.setT (HR1.out.s.mod0 (Mod.refl [] w1).drew) t2 m2
    have R2 := Lib.hid (HR1.out.own HLT.out s2 (Mod.of_drew m2) (fun z hz => by have := List.mem_singleton.1 hz; subst this; simp [RbL]))
    have SV := Lib.hid (rserve_calls w2 X N0 sv rT bB gT gS gD cap gy cy _ _ s2 (fun z hz => by have := HX.out z hz; have := R2.out.m.size; omega))
    clear o2 t2 m2 s2 KS KSM
    go_wp2_with fail
    refine SV.out.mono ?_
    rintro e w4 ⟨gv, v', rfl, og, s4, m4⟩
    obtain ⟨p6, c6, rfl⟩ := own_len og
    have R4 := Lib.hid (R2.out.own HLT.out s4 m4 sv_in)
    have FIN := Lib.hid (RCm.served (zs := []) R4.out (own_base og (Nat.zero_le _)) (own_nil _ _ _ _))
    obtain ⟨g0, g1, g2, g3, g4, g5, g6, g7, g8, g9⟩ := rans_facts R4.out.z
    clear og s4 m4
    go_wp2
    (try simp only [Exit.inBlock, Exit.then])
    exact bodyPost_ret (rans_res rfl rfl (put5_arr R4.out.z _ _ _ _ _)) rfl (by rw [E.out]; exact FIN.out)
set_option maxRecDepth 100000 in
set_option maxHeartbeats 8000000 in
theorem rdo_renew (w : World) (X : List Nat) (N0 sv rT bB gT gS gD cap gy cy : Nat) (v : Value) (x : GS) (c : CmdT) (hS : RSv w X N0 sv rT bB gT gS gD cap gy cy v x) (hX : ∀ z, z ∈ X → z < w.heap.size) (hk : c.k = 4) :
    Calls Tryd.prog 21 #[.pointer (some ⟨sv, 0, none⟩), .agg c.arr] w (RDoP w X N0 sv rT bB gT gS gD cap gy cy (x.renew c)) := by
  obtain ⟨w1, hw1⟩ : ∃ w1, w1 = (w.alloc (.cells c.arr 59)).alloc (.cells zeroAns 57) := ⟨_, rfl⟩
  have R1 := rcm_start c hS
  rw [← hw1] at R1
  have HR1 := Lib.hid R1
  have HW1 := Lib.hid hw1
  have HLT := Lib.hid hS.lt
  have HX := Lib.hid hX
  have HX1 := Lib.hid (show ∀ z, z ∈ X → z < w1.heap.size from fun z hz => by have := hX z hz; have := R1.m.size; omega)
  have HIV := Lib.hid hS.inv
  have HNE := Lib.hid hS.ne
  have hsz := R1.z.lt
  have y0 := R1.a.cell 0 (by omega)
  have y1 := R1.a.cell 1 (by omega)
  have y2 := R1.a.cell 2 (by omega)
  have y3 := R1.a.cell 3 (by omega)
  have y4 := R1.a.cell 4 (by omega)
  simp only [CmdT.f, if_true, if_false, Nat.reduceEqDiff] at y0 y1 y2 y3 y4
  rw [hk] at y0
  obtain ⟨rv, hrv⟩ : ∃ rv, rv = renewV x.u x.s x.d c.c c.q c.n c.l := ⟨_, rfl⟩
  obtain ⟨re, hre⟩ : ∃ re, re = renewE x.s x.d c.c c.q c.n c.l := ⟨_, rfl⟩
  have C2 := Lib.hid ((rbRenew_calls w1.drew bB gT gS gD cap x.u x.s x.d c.c c.q c.n c.l (R1.s.mod0 (Mod.refl [] w1).drew).bk).mono (R' := fun e w' => e = .returned (.tuple #[.int .i64 rv, .int .i64 re]) ∧ RBk w' bB gT gS gD cap (renewU x.u x.s x.d c.c c.q c.n c.l) (renewS x.s x.d c.c c.q c.n c.l) x.d ∧ Mod [gT, gS, gD] w1.drew w') (fun e w' k => by
    rw [hrv, hre]
    exact k))
  have KS := Lib.hid (And.intro R1.s.c1 (And.intro y1 (And.intro y2 (And.intro y3 y4))))
  have n1 : sv ∉ [gT, gS, gD] := by simp; exact ⟨HNE.out.2.2.1, HNE.out.2.2.2.1, HNE.out.2.2.2.2.1⟩
  have n2 : w.heap.size ∉ [gT, gS, gD] := fun e => by have h : w.heap.size ∈ RbL sv rT bB gT gS gD gy := by simp at e; rcases e with e | e | e <;> rw [e] <;> simp [RbL]
                                                      have := HLT.out _ h; omega
  have KSM := Lib.hid (fun w' (m : Mod [gT, gS, gD] w1.drew w') => And.intro (m.cell' KS.out.1 n1) (And.intro (m.cell' KS.out.2.1 n2) (And.intro (m.cell' KS.out.2.2.1 n2) (And.intro (m.cell' KS.out.2.2.2.1 n2) (m.cell' KS.out.2.2.2.2 n2)))))
  have E := Lib.hid (show x.renew c = ({ x with u := renewU x.u x.s x.d c.c c.q c.n c.l, s := renewS x.s x.d c.c c.q c.n c.l }, ⟨re, rv, [], [], []⟩) by rw [hrv, hre]; rfl)
  clear n1 n2 hrv hre
  rw [hw1] at y0 y1 y2 y3 y4
  clear hw1 R1 hS hX
  unfold zeroAns at HW1 y0 y1 y2 y3 y4
  unfold CmdT.arr at HW1 y0 y1 y2 y3 y4 ⊢
  rw [hk] at HW1 y0 y1 y2 y3 y4 ⊢
  clear hk
  go_enter Tryd.func21, Tryd.ntmps21
  go_upto_region 13 with (fail)
  rw [← HW1.out]
  go_cut [5, 6] (fun s5 s6 wx => s5 = .int .i64 rv ∧ s6 = .int .i64 re ∧ RCm w X N0 sv rT bB gT gS gD cap gy cy v { x with u := renewU x.u x.s x.d c.c c.q c.n c.l, s := renewS x.s x.d c.c c.q c.n c.l } c wx)
  case first =>
    first
      | (go_region_held3 (fun w' => w'.cell? ⟨sv, 1, none⟩ = some (.pointer (some ⟨bB, 0, none⟩)) ∧ w'.cell? ⟨w.heap.size, 1, none⟩ = some (.int .i64 c.c) ∧ w'.cell? ⟨w.heap.size, 2, none⟩ = some (.int .i64 c.q) ∧ w'.cell? ⟨w.heap.size, 3, none⟩ = some (.int .i64 c.n) ∧ w'.cell? ⟨w.heap.size, 4, none⟩ = some (.int .i64 c.l))
          (first | exact KS.out | exact KSM.out _ (by assumption))
          (first
            | (go_at_call 44; (with_reducible refine C2.out.mono ?_); rintro e w2 ⟨rfl, b2, m2⟩)))
      | fail
    all_goals
      have s2 := RSv.setB (HR1.out.s.mod0 (Mod.refl [] w1).drew) b2 m2
      have R2 := Lib.hid (HR1.out.own HLT.out s2 (Mod.of_drew m2) (fun z hz => by simp at hz; rcases hz with e | e | e <;> subst e <;> simp [RbL]))
      clear b2 m2 s2
      go_wp2
      go_meet
      exact ⟨rfl, rfl, R2.out⟩
  case rest =>
    obtain ⟨rfl, rfl, hR⟩ := hcut
    generalize wc = wz at *
    have R2 := Lib.hid hR
    obtain ⟨g0, g1, g2, g3, g4, g5, g6, g7, g8, g9⟩ := rans_facts hR.z
    clear hR KS KSM y0 y1 y2 y3 y4
    go_wp2
    (try simp only [Exit.inBlock, Exit.then])
    exact bodyPost_ret (rans_res rfl rfl (put5_arr R2.out.z _ _ _ _ _)) rfl (by rw [E.out]; exact rdo_end (y := (_, ⟨re, rv, [], [], []⟩)) (by omega) R2.out.s R2.out.m R2.out.z (own_nil _ _ _ _) (own_nil _ _ _ _) (own_nil _ _ _ _))
end Go.Proofs.YtijjbkkcienfgaaDoor.Rf
