/- The document's acceptor: Accept. No further condition. -/
import Derived.Test.YtphcoenooinmfaaDoorBal9
namespace Go.Proofs.YtphcoenooinmfaaDoor
open Go.RowKit
set_option linter.unusedVariables false
set_option linter.unusedSimpArgs false
attribute [local go_sem ↓] Go.wp_at_zero Go.wp_at_succ

/-- What the document's loop does with a vote of its list. -/
def insS (x : VoteT) (q : List VoteT × Bool) (y : VoteT) : List VoteT × Bool :=
  ((if q.2 = false ∧ x.s ≤ y.s then q.1 ++ [x] else q.1) ++ (if y.s = x.s then [] else [y]), q.2 || decide (x.s ≤ y.s))
def insR (x : VoteT) (L : List VoteT) (k : Nat) : List VoteT × Bool := (L.take k).foldl (insS x) ([], false)
def insL (x : VoteT) (L : List VoteT) : List VoteT := if (insR x L L.length).2 = true then (insR x L L.length).1 else (insR x L L.length).1 ++ [x]
theorem insR_succ (x : VoteT) (L : List VoteT) (k : Nat) (hk : k < L.length) : insR x L (k + 1) = insS x (insR x L k) (L.getD k VoteT.zero) := by
  unfold insR
  rw [← take_snoc L k hk, List.foldl_append]
  rfl
theorem insS_len (x : VoteT) (q : List VoteT × Bool) (y : VoteT) : (insS x q y).1.length ≤ q.1.length + 2 := by
  unfold insS
  split <;> split <;> simp
theorem insR_len (x : VoteT) (L : List VoteT) (k : Nat) (hk : k ≤ L.length) : (insR x L k).1.length ≤ 2 * k := by
  induction k with
  | zero => simp [insR]
  | succ k ih =>
    rw [insR_succ x L k (by omega)]
    have := insS_len x (insR x L k) (L.getD k VoteT.zero)
    have := ih (by omega)
    omega
def raccL (p : Int) (x : VoteT) (L : List VoteT) : List VoteT := if accE p x = 0 then insL x L else L
def RAccPost (w : World) (B r : Nat) (p : Int) (L : List VoteT) (x : VoteT) (e : Ending) (w' : World) : Prop :=
  ∃ v, e = .returned (.int .i64 (accE p x)) ∧ RAcc w' B r (accP p x) v (raccL p x L) ∧ Mod [r] w w'
theorem RAccPost.no {w w' : World} {B r : Nat} {p : Int} {v : Value} {L : List VoteT} {x : VoteT} {e : Int} (h : RAcc w B r p v L) (he : accE p x = e) (hne : e ≠ 0) (m : Mod [] w w') : RAccPost w B r p L x (.returned (.int .i64 e)) w' := by
  refine ⟨v, by rw [he], ?_, m.nil⟩
  unfold accP raccL
  rw [he, if_neg hne, if_neg hne]
  exact h.mod0 m
/-- The row that the loop builds. -/
def RI (w1 wr : World) (u : Value) (o : List VoteT) : Prop := wr.ownsRow w1.heap.size 38 3 u o.length (vcells o) ∧ Mod [] w1 wr
theorem RI.app {w1 wr wa w9 : World} {u u9 : Value} {o : List VoteT} {x : VoteT} (h : RI w1 wr u o) (ma : Mod [] wr wa) (ho9 : w9.ownsRow w1.heap.size 38 3 u9 (o.length + 1) (vcells o ++ x.cs)) (m9 : Mod u.ownBlock.toList wa w9) :
    RI w1 w9 u9 (o ++ [x]) := by
  refine ⟨?_, (h.2.trans ma).fresh m9 fun k hk => .inr (own_lt' h.1 k (by simpa using hk)).1⟩
  rw [← vcells_one, List.length_append, List.length_singleton]
  exact ho9
theorem RI.drew {w1 wr : World} {u : Value} {o : List VoteT} (h : RI w1 wr u o) : RI w1 wr.drew u o := ⟨own_mod h.1 ((Mod.refl [] _).drew) (by simp), h.2.drew⟩
theorem RI.own {w1 wr wa : World} {u : Value} {o : List VoteT} (h : RI w1 wr u o) (m : Mod [] wr wa) : wa.ownsRow w1.heap.size 38 3 u o.length (vcells o) := own_mod h.1 m (by simp)
theorem RI.start (w1 : World) : RI w1 (w1.alloc (.cells #[] 38)).drew (.slice (some ⟨w1.heap.size, 0, none⟩) 0 0) [] := RI.drew ⟨own_empty w1 _ _ _ (Nat.le_refl _), (Mod.refl _ _).alloc _⟩
theorem RI.mod0 {w1 wr wa : World} {u : Value} {o : List VoteT} (h : RI w1 wr u o) (m : Mod [] wr wa) : RI w1 wa u o := ⟨h.own m, h.2.trans m⟩
theorem RI.own1 {w1 wr wa : World} {u : Value} {o : List VoteT} {x : VoteT} (h : RI w1 wr u (o ++ [x])) (m : Mod [] wr wa) : wa.ownsRow w1.heap.size 38 3 u (o.length + 1) (vcells (o ++ [x])) := by
  have h5 := h.own m
  rw [List.length_append, List.length_singleton] at h5
  exact h5
theorem RI.size {w1 wr wa : World} {u : Value} {o : List VoteT} (h : RI w1 wr u o) (m : Mod [] wr wa) : w1.heap.size ≤ wa.heap.size := (h.2.trans m).size
theorem raf0 (x : VoteT) (w : World) : Arr (w.alloc (.cells #[.int .i64 x.s, .int .i64 x.b, .string x.v] 38)) w.heap.size 38 3 x.cF := Arr.new' w _ _ 3 _ rfl (fun i hi => by
    match i, hi with
    | 0, _ | 1, _ | 2, _ => rfl)
theorem RAccPost.yes {w w1 w9 : World} {B r : Nat} {p : Int} {v u : Value} {L o : List VoteT} {x : VoteT} (h : RAcc w B r p v L) (he : accE p x = 0) (hB : B ≤ w.heap.size) (m1 : Mod [r] w w1) (hI : RI w1 w9 u o) (ho : insL x L = o) (hA : Arr w1 r 48 2 (raF x.b v)) :
    RAccPost w B r p L x (.returned (.int .i64 0)) (w9.setCell ⟨r, 1, none⟩ u) := by
  have hA9 := hA.mod hI.2 (by simp)
  have h9 : RAcc (w9.setCell ⟨r, 1, none⟩ u) B r x.b u o := by
    have ho9 := own_base hI.1 (Nat.le_trans hB m1.size)
    have hA' : Arr (w9.setCell ⟨r, 1, none⟩ u) r 48 2 (raF x.b u) := (hA9.set 1 _).congr fun i hi => by
      unfold raF
      match i, hi with
      | 0, _ => rfl
      | 1, _ => rfl
    refine ⟨hA', own_mod ho9 ((Mod.refl [r] w9).setCell (.inl (by simp)) _) fun k hk hx => ?_⟩
    have := own_ne_arr ho9 hA9 (by decide)
    rw [hk] at this
    simp at this hx
    exact this hx.symm
  refine ⟨u, by rw [he], ?_, (m1.trans hI.2.nil).setCell (.inl (by simp)) _⟩
  unfold accP raccL
  rw [he, if_pos rfl, if_pos rfl, ho]
  exact h9
set_option maxRecDepth 100000 in
set_option maxHeartbeats 4000000 in
theorem raccept_calls (w : World) (B r : Nat) (p : Int) (vl : Value) (L : List VoteT) (x : VoteT) (h : RAcc w B r p vl L) (hx : x.v.size ≤ 9223372036854775807) (hl : L.length ≤ 100000) (hB : B ≤ w.heap.size) :
    Calls Tryd.prog 26 #[.pointer (some ⟨r, 0, none⟩), .agg #[.int .i64 x.s, .int .i64 x.b, .string x.v]] w (RAccPost w B r p L x) := by
  have HP := Lib.hid h
  obtain ⟨w1, hw1⟩ : ∃ w1, w1 = w.alloc (.cells #[.int .i64 x.s, .int .i64 x.b, .string x.v] 38) := ⟨_, rfl⟩
  have m1 : Mod [] w w1 := by rw [hw1]; exact (Mod.refl _ _).alloc _
  have HC : Hid (Arr w1 w.heap.size 38 3 x.cF) := Lib.hid (by rw [hw1]; exact raf0 x w)
  have hal : r < w.heap.size := h.arr.lt
  have M1 := Lib.hid m1
  have HW1 := Lib.hid hw1
  have h1 := h.mod0 m1
  have q0 := h1.c0
  have f0 := h1.arr.free 0
  have hne : r ≠ w.heap.size := by omega
  have hne' : w.heap.size ≠ r := by omega
  have cc0 := HC.out.cell 0 (by omega)
  have cc1 := HC.out.cell 1 (by omega)
  have cc2 := HC.out.cell 2 (by omega)
  unfold VoteT.cF at cc0 cc1 cc2
  simp only [if_true, if_false, Nat.reduceEqDiff] at cc0 cc1 cc2
  rw [hw1] at q0 f0 cc0 cc1 cc2
  have NO := Lib.hid (fun e (he : accE p x = e) (hne : e ≠ 0) w' (m : Mod [] w w') => RAccPost.no h he hne m)
  have Bc := fun t (ht : balB x.b = t) (w : World) => Lib.hid (rballot_calls w x.b t ht)
  by_cases hs0 : x.s < 0
  · have e1 : accE p x = 1 := by unfold accE; rw [if_pos (.inl hs0)]
    have F := Lib.hid (NO.out 1 e1 (by decide) w1 M1.out)
    clear h hw1 m1 h1 e1 NO Bc HC HP
    go_enter Tryd.func26, Tryd.ntmps26
    go_wp2
    rw [← HW1.out]
    go_ret
    exact F.out
  by_cases hs1 : 4096 ≤ x.s
  · have e1 : accE p x = 1 := by unfold accE; rw [if_pos (.inr (.inl hs1))]
    have F := Lib.hid (NO.out 1 e1 (by decide) w1 M1.out)
    clear h hw1 m1 h1 e1 NO Bc HC HP
    go_enter Tryd.func26, Tryd.ntmps26
    go_wp2
    rw [← HW1.out]
    go_ret
    exact F.out
  cases hb : balB x.b with
  | false =>
    have e1 : accE p x = 1 := by unfold accE; rw [if_pos (.inr (.inr hb))]
    have F := Lib.hid (NO.out 1 e1 (by decide) w1 M1.out)
    have B1 := Bc false hb w1
    clear h hw1 m1 h1 e1 NO Bc HC HP hb
    go_enter Tryd.func26, Tryd.ntmps26
    go_wp2_with fail
    rw [← HW1.out]
    refine B1.out.mono ?_
    rintro e w2 ⟨rfl, rfl⟩
    go_wp2
    go_ret
    exact F.out
  | true =>
    have B1 := Bc true hb w1
    have hno : ¬ (x.s < 0 ∨ 4096 ≤ x.s ∨ balB x.b = false) := by rw [hb]; simp; omega
    by_cases hv : 1024 < x.v.size
    · have e1 : accE p x = 11 := by unfold accE; rw [if_neg hno, if_pos hv]
      have F := Lib.hid (NO.out 11 e1 (by decide) w1 M1.out)
      have hvi : (1024 : Int) < (x.v.size : Int) := by omega
      clear h h1 e1 NO Bc HC HP hb hno m1 hw1
      go_enter Tryd.func26, Tryd.ntmps26
      go_wp2_with fail
      rw [← HW1.out]
      refine B1.out.mono ?_
      rintro e w2 ⟨rfl, rfl⟩
      rw [← HW1.out] at cc0 cc1 cc2
      go_wp2
      go_ret
      exact F.out
    · have hvi : ¬ (1024 : Int) < (x.v.size : Int) := by omega
      by_cases hlt : x.b < p
      · have e1 : accE p x = 5 := by unfold accE; rw [if_neg hno, if_neg hv, if_pos hlt]
        have F := Lib.hid (NO.out 5 e1 (by decide) w1.drew M1.out.drew)
        clear h h1 e1 NO Bc HC HP hb hno m1 hw1
        go_enter Tryd.func26, Tryd.ntmps26
        go_wp2_with fail
        rw [← HW1.out]
        refine B1.out.mono ?_
        rintro e w2 ⟨rfl, rfl⟩
        rw [← HW1.out] at cc0 cc1 cc2 q0
        go_wp2
        (try go_region)
        (try go_wp2)
        go_ret
        exact F.out
      · have e1 : accE p x = 0 := by unfold accE; rw [if_neg hno, if_neg hv, if_neg hlt]
        have hbp : ¬ x.b < p := hlt
        have HPA := h1.setP x.b
        obtain ⟨w3, hw3⟩ : ∃ w3, w3 = w1.setCell ⟨r, 0, none⟩ (.int .i64 x.b) := ⟨_, rfl⟩
        have m3 : Mod [r] w w3 := by rw [hw3]; exact m1.nil.setCell (.inl (by simp)) _
        have m13 : Mod [r] w1 w3 := by rw [hw3]; exact (Mod.refl _ _).setCell (.inl (by simp)) _
        rw [← hw3] at HPA
        have HA := Lib.hid HPA
        have hsz : w3.heap.size = w1.heap.size := by rw [hw3]; simp
        have HRI0 := RI.start w3
        rw [hsz] at HRI0
        obtain ⟨A, cap, rfl, hc, hm, hx9⟩ := (own_slA HPA.own).ex
        have hcap : cap ≤ 9223372036854775807 := by unfold maxLen at hm; omega
        have HX := Lib.hid hx9
        have CX := Lib.hid (HC.out.mod m13 (by simpa using hne'))
        have FIN := Lib.hid (fun w9 u o (hI : RI w3 w9 u o) (ho : insL x L = o) => RAccPost.yes h e1 hB m3 hI ho HPA.arr)
        have HR0 := Lib.hid HRI0
        have HW3 := Lib.hid hw3
        have LS := Lib.hid (insR_succ x L)
        have LL := Lib.hid (insR_len x L)
        have HE : Hid (insL x L = if (insR x L L.length).2 = true then (insR x L L.length).1 else (insR x L L.length).1 ++ [x]) := Lib.hid rfl
        clear hb hno NO Bc hx9 hm hw1 hlt HPA HRI0 hw3 hsz m3 m13 h h1 HC HP M1 m1 e1
        go_enter Tryd.func26, Tryd.ntmps26
        go_wp2_with fail
        rw [← HW1.out]
        refine B1.out.mono ?_
        rintro e w2 ⟨rfl, rfl⟩
        rw [← HW1.out] at cc0 cc1 cc2 q0 f0
        go_wp2
        go_region
        go_wp2
        rw [← HW3.out]
        clear cc0 cc1 cc2 q0 f0
        go_loopw [5, 6, 7] (fun u d i wr => ∃ (k : Nat) (u' : Value) (o : List VoteT) (b : Bool), u = u' ∧ k ≤ L.length ∧ i = .int .i64 k ∧ d = .bool b ∧ insR x L k = (o, b) ∧ RI w3 wr u' o) (fun _ _ i _ => L.length - (intOf i).toNat)
        case atStart => exact ⟨0, _, _, _, rfl, Nat.zero_le _, rfl, rfl, rfl, HR0.out⟩
        case round =>
          obtain ⟨k, u', o, d, rfl, hk, rfl, rfl, hq, hI⟩ := hrel
          clear HR0
          have hM := hI.2
          have c1 := (HA.out.mod0 hM).c1
          have D := CX.out.mod hM (by simp)
          have cc0 := D.cell 0 (by omega)
          have cc1 := D.cell 1 (by omega)
          have cc2 := D.cell 2 (by omega)
          unfold VoteT.cF at cc0 cc1 cc2
          simp only [if_true, if_false, Nat.reduceEqDiff] at cc0 cc1 cc2
          have hln := LL.out k hk
          by_cases hlt : k < L.length
          · have i0 : (0 : Int) ≤ (k : Int) := by omega
            have i1 : (k : Int) < (L.length : Int) := by omega
            have hst := LS.out k hlt
            obtain ⟨bb, off, rfl, hcell⟩ := HX.out (by omega)
            have r0 := hcell k 0 hlt (by omega)
            have r1 := hcell k 1 hlt (by omega)
            have r2 := hcell k 2 hlt (by omega)
            rw [vcells_get L k 0 hlt (by omega)] at r0
            rw [vcells_get L k 1 hlt (by omega)] at r1
            rw [vcells_get L k 2 hlt (by omega)] at r2
            unfold vF VoteT.cF at r0 r1 r2
            simp only [if_true, if_false, Nat.reduceEqDiff, Nat.add_zero] at r0 r1 r2
            have X3 := And.intro r0 (And.intro r1 r2)
            have x0 := hM.cell' r0 (by simp)
            have x1 := hM.cell' r1 (by simp)
            have x2 := hM.cell' r2 (by simp)
            clear r0 r1 r2
            generalize L.getD k VoteT.zero = y at *
            obtain ⟨q1, hq1⟩ : ∃ q1, q1 = insR x L (k + 1) := ⟨_, rfl⟩
            rw [← hq1] at hst
            have HQ1 := Lib.hid hq1
            clear hq1
            rw [hq] at hst hln
            unfold insS at hst
            simp only at hst hln
            have HYC : Hid (∀ w9, Mod [] w3 w9 → w9.cell? ⟨bb, off + k * 3, none⟩ = some (.int .i64 y.s) ∧ w9.cell? ⟨bb, off + k * 3 + 1, none⟩ = some (.int .i64 y.b) ∧ w9.cell? ⟨bb, off + k * 3 + 2, none⟩ = some (.string y.v) ∧ w9.cell? ⟨w.heap.size, 0, none⟩ = some (.int .i64 x.s) ∧ w9.cell? ⟨w.heap.size, 1, none⟩ = some (.int .i64 x.b) ∧ w9.cell? ⟨w.heap.size, 2, none⟩ = some (.string x.v) ∧ w9.cell? ⟨r, 1, none⟩ = some (.slice (some ⟨bb, off, none⟩) L.length cap)) := Lib.hid (fun w9 m9 => ⟨m9.cell' X3.1 (by simp), m9.cell' X3.2.1 (by simp), m9.cell' X3.2.2 (by simp), (CX.out.mod m9 (by simp)).cell 0 (by omega), (CX.out.mod m9 (by simp)).cell 1 (by omega), (CX.out.mod m9 (by simp)).cell 2 (by omega), (HA.out.mod0 m9).c1⟩)
            have HI := Lib.hid hI
            clear hcell hI hM D X3 hq
            have tokX : True := trivial
            have tokY : True := trivial
            cases d with
            | false =>
              by_cases hxy : x.s ≤ y.s
              · by_cases hey : y.s = x.s
                · have HST : Hid (q1 = (o ++ [x], true)) := Lib.hid (by rw [hst]; simp [hxy, hey])
                  have t1 : (y.s != x.s) = false := by simp [hey]
                  clear hst hey
                  go_wp2
                  go_quiet (fail)
                  go_wp2_with (
                      at_builtin
                      have _t := tokX
                      refine app1 w3.heap.size 34 38 (.agg #[.int .i64 0, .int .i64 0, .string ⟨#[]⟩]) 3 32 Tryd.underlying34 rvote_info rfl (by omega) (by omega) rfl _ _ rfl u5 _ _ rfl (HI.out.own (show Mod [] wr _ from (((Mod.refl [] wr).drewN _).alloc _))) wr.heap.size x.cs rfl rfl (news_cells _ _ x) (by simp [VoteT.cs, Value.oneCell']) (by omega) (HI.out.size (show Mod [] wr _ from (((Mod.refl [] wr).drewN _).alloc _))) ?_
                      intro gaR1 capR1 wR1 ho9 m9 hg9 hb9
                      have R1 := Lib.hid (HI.out.app (show Mod [] wr _ from (((Mod.refl [] wr).drewN _).alloc _)) ho9 m9)
                      clear ho9 m9 hg9 hb9 tokX)
                  obtain ⟨y0, y1, y2, z0, z1, z2, z3⟩ := HYC.out wR1 R1.out.2
                  clear HYC
                  go_quiet (fail)
                  go_wp2
                  go_roundw
                  case rel => exact ⟨k + 1, _, _, _, rfl, by omega, by go_num, rfl, by rw [← HQ1.out]; exact HST.out, R1.out.mod0 (by first | exact (((Mod.refl [] _).drewN _).drewN _) | exact ((Mod.refl [] _).drewN _))⟩
                  case measure => simp [intOf]; omega
                · have HST : Hid (q1 = (o ++ [x] ++ [y], true)) := Lib.hid (by rw [hst]; simp [hxy, hey])
                  have t1 : (y.s != x.s) = true := by simp [hey]
                  clear hst hey
                  go_wp2
                  go_quiet (fail)
                  go_wp2_with (
                      at_builtin
                      have _t := tokX
                      refine app1 w3.heap.size 34 38 (.agg #[.int .i64 0, .int .i64 0, .string ⟨#[]⟩]) 3 32 Tryd.underlying34 rvote_info rfl (by omega) (by omega) rfl _ _ rfl u5 _ _ rfl (HI.out.own (show Mod [] wr _ from (((Mod.refl [] wr).drewN _).alloc _))) wr.heap.size x.cs rfl rfl (news_cells _ _ x) (by simp [VoteT.cs, Value.oneCell']) (by omega) (HI.out.size (show Mod [] wr _ from (((Mod.refl [] wr).drewN _).alloc _))) ?_
                      intro gaR1 capR1 wR1 ho9 m9 hg9 hb9
                      have R1 := Lib.hid (HI.out.app (show Mod [] wr _ from (((Mod.refl [] wr).drewN _).alloc _)) ho9 m9)
                      clear ho9 m9 hg9 hb9 tokX)
                  obtain ⟨y0, y1, y2, z0, z1, z2, z3⟩ := HYC.out wR1 R1.out.2
                  clear HYC
                  go_quiet (fail)
                  go_wp2_with (
                      at_builtin
                      have _t := tokY
                      refine app1 w3.heap.size 34 38 (.agg #[.int .i64 0, .int .i64 0, .string ⟨#[]⟩]) 3 32 Tryd.underlying34 rvote_info rfl (by omega) (by omega) rfl _ _ rfl (.slice (some ⟨gaR1, 0, none⟩) (o.length + 1) capR1) (o.length + 1) (vcells (o ++ [x])) rfl (R1.out.own1 (show Mod [] wR1 _ from (((Mod.refl [] wR1).drewN _).alloc _))) wR1.heap.size y.cs rfl rfl (news_cells _ _ y) (by simp [VoteT.cs, Value.oneCell']) (by omega) (R1.out.size (show Mod [] wR1 _ from (((Mod.refl [] wR1).drewN _).alloc _))) ?_
                      intro gaR2 capR2 wR2 ho9 m9 hg9 hb9
                      have R2 := Lib.hid (R1.out.app (show Mod [] wR1 _ from (((Mod.refl [] wR1).drewN _).alloc _)) (by rw [List.length_append, List.length_singleton]; exact ho9) m9)
                      clear ho9 m9 hg9 hb9 tokY)
                  go_roundw
                  case rel => exact ⟨k + 1, _, _, _, rfl, by omega, by go_num, rfl, by rw [← HQ1.out]; exact HST.out, R2.out⟩
                  case measure => simp [intOf]; omega
              · have hey : ¬ y.s = x.s := by omega
                have HST : Hid (q1 = (o ++ [y], false)) := Lib.hid (by rw [hst]; simp [hxy, hey])
                have t1 : (y.s != x.s) = true := by simp [hey]
                clear hst hey
                go_wp2
                go_quiet (fail)
                go_wp2
                go_quiet (fail)
                go_wp2_with (
                    at_builtin
                    have _t := tokY
                    refine app1 w3.heap.size 34 38 (.agg #[.int .i64 0, .int .i64 0, .string ⟨#[]⟩]) 3 32 Tryd.underlying34 rvote_info rfl (by omega) (by omega) rfl _ _ rfl u5 _ _ rfl (HI.out.own (show Mod [] wr _ from (((Mod.refl [] wr).drewN _).alloc _))) wr.heap.size y.cs rfl rfl (news_cells _ _ y) (by simp [VoteT.cs, Value.oneCell']) (by omega) (HI.out.size (show Mod [] wr _ from (((Mod.refl [] wr).drewN _).alloc _))) ?_
                    intro gaR2 capR2 wR2 ho9 m9 hg9 hb9
                    have R2 := Lib.hid (HI.out.app (show Mod [] wr _ from (((Mod.refl [] wr).drewN _).alloc _)) ho9 m9)
                    clear ho9 m9 hg9 hb9 tokY)
                go_roundw
                case rel => exact ⟨k + 1, _, _, _, rfl, by omega, by go_num, rfl, by rw [← HQ1.out]; exact HST.out, R2.out⟩
                case measure => simp [intOf]; omega
            | true =>
              by_cases hey : y.s = x.s
              · have HST : Hid (q1 = (o, true)) := Lib.hid (by rw [hst]; simp [hey])
                have t1 : (y.s != x.s) = false := by simp [hey]
                clear hst hey
                go_wp2
                go_quiet (fail)
                go_wp2
                go_quiet (fail)
                go_wp2
                go_roundw
                case rel => exact ⟨k + 1, _, _, _, rfl, by omega, by go_num, rfl, by rw [← HQ1.out]; exact HST.out, HI.out.mod0 (by first | exact (((Mod.refl [] _).drewN _).drewN _) | exact ((Mod.refl [] _).drewN _))⟩
                case measure => simp [intOf]; omega
              · have HST : Hid (q1 = (o ++ [y], true)) := Lib.hid (by rw [hst]; simp [hey])
                have t1 : (y.s != x.s) = true := by simp [hey]
                clear hst hey
                go_wp2
                go_quiet (fail)
                go_wp2
                go_quiet (fail)
                go_wp2_with (
                    at_builtin
                    have _t := tokY
                    refine app1 w3.heap.size 34 38 (.agg #[.int .i64 0, .int .i64 0, .string ⟨#[]⟩]) 3 32 Tryd.underlying34 rvote_info rfl (by omega) (by omega) rfl _ _ rfl u5 _ _ rfl (HI.out.own (show Mod [] wr _ from (((Mod.refl [] wr).drewN _).alloc _))) wr.heap.size y.cs rfl rfl (news_cells _ _ y) (by simp [VoteT.cs, Value.oneCell']) (by omega) (HI.out.size (show Mod [] wr _ from (((Mod.refl [] wr).drewN _).alloc _))) ?_
                    intro gaR2 capR2 wR2 ho9 m9 hg9 hb9
                    have R2 := Lib.hid (HI.out.app (show Mod [] wr _ from (((Mod.refl [] wr).drewN _).alloc _)) ho9 m9)
                    clear ho9 m9 hg9 hb9 tokY)
                go_roundw
                case rel => exact ⟨k + 1, _, _, _, rfl, by omega, by go_num, rfl, by rw [← HQ1.out]; exact HST.out, R2.out⟩
                case measure => simp [intOf]; omega
          · have i1 : ¬ (k : Int) < (L.length : Int) := by omega
            obtain rfl : k = L.length := by omega
            have he := HE.out
            rw [hq] at he hln
            simp only at hln he
            obtain ⟨A5, cap5, rfl, -⟩ := (own_slA hI.1).ex
            have HI := Lib.hid hI
            have f1 := (HA.out.arr.mod hM (by simp)).free 1
            clear hI hM D hq
            have tokX : True := trivial
            cases d with
            | true =>
              have HST : Hid (insL x L = o) := Lib.hid (by rw [he]; simp)
              clear he
              go_wp2
              go_ret
              exact FIN.out _ _ _ HI.out HST.out
            | false =>
              have HST : Hid (insL x L = o ++ [x]) := Lib.hid (by rw [he]; simp)
              clear he
              go_wp2_with (
                  at_builtin
                  have _t := tokX
                  refine app1 w3.heap.size 34 38 (.agg #[.int .i64 0, .int .i64 0, .string ⟨#[]⟩]) 3 32 Tryd.underlying34 rvote_info rfl (by omega) (by omega) rfl _ _ rfl (.slice A5 o.length cap5) _ _ rfl (HI.out.own (show Mod [] wr _ from ((Mod.refl [] wr).alloc _))) wr.heap.size x.cs rfl rfl (news_cells _ _ x) (by simp [VoteT.cs, Value.oneCell']) (by omega) (HI.out.size (show Mod [] wr _ from ((Mod.refl [] wr).alloc _))) ?_
                  intro gaR1 capR1 wR1 ho9 m9 hg9 hb9
                  have R1 := Lib.hid (HI.out.app (show Mod [] wr _ from ((Mod.refl [] wr).alloc _)) ho9 m9)
                  have c9 := (HA.out.arr.mod R1.out.2 (by simp)).cell 1 (by omega)
                  have f9 := (HA.out.arr.mod R1.out.2 (by simp)).free 1
                  clear ho9 m9 hg9 hb9 tokX)
              go_ret
              exact FIN.out _ _ _ R1.out HST.out
end Go.Proofs.YtphcoenooinmfaaDoor
