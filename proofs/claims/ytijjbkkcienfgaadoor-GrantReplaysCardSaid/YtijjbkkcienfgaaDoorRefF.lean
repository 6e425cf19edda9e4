/- What Cut, Weaken, Drop, Has of the document's table, and Same, come to. No condition beyond what stands in each. -/
import Derived.Test.YtijjbkkcienfgaaDoorRefE
namespace Go.Proofs.YtijjbkkcienfgaaDoor
open Go.RowKit
set_option linter.unusedVariables false
set_option linter.unusedSimpArgs false
attribute [local go_sem ↓] Go.wp_at_zero Go.wp_at_succ

theorem pOf_eq (cl : Int) (c m : Nat) : pOf cl c m = (decide ((c : Int) = cl) && (decide ((0 : Int) = 0) || decide ((m : Int) = 0))) := by simp [pOf]
theorem pOf2_eq (cl : Int) (c m : Nat) : pOf2 cl c m = (decide ((c : Int) = cl) && (decide ((2 : Int) = 0) || decide ((m : Int) = 2))) := by
  have h9 : ((m : Int) = 2) ↔ m = 2 := by omega
  simp [pOf2, h9]

set_option maxRecDepth 100000 in
set_option maxHeartbeats 2000000 in
theorem rcut_calls (w : World) (base r : Nat) (t : Nat → Nat → Nat) (cl a b : Int) (hT : RTab w base r t) (hbs : base ≤ w.heap.size) :
    Calls Tryd.prog 41 #[.pointer (some ⟨r, 0, none⟩), .int .i64 cl, .agg #[.int .i64 a, .int .i64 b]] w fun e w' =>
      ∃ v, e = .returned v ∧ w'.ownsRow w.heap.size 39 4 v (someL t a b (pOf cl)).length (hcells (someL t a b (pOf cl))) ∧ RTab w' base r (setT t cl a b (fun _ => 0)) ∧ Mod [r] w w' := by
  obtain ⟨w1, hw1⟩ : ∃ w1, w1 = w.alloc (.cells #[.int .i64 a, .int .i64 b] 23) := ⟨_, rfl⟩
  have M1 : Mod [] w w1 := by rw [hw1]; exact (Mod.refl [] w).alloc _
  have K0 : w1.cell? ⟨w.heap.size, 0, none⟩ = some (.int .i64 a) := by rw [hw1]; simp
  have K1 : w1.cell? ⟨w.heap.size, 1, none⟩ = some (.int .i64 b) := by rw [hw1]; simp
  have s1 : w.heap.size + 1 = w1.heap.size := by rw [hw1]; simp
  have HT := Lib.hid (hT.same M1)
  have HW1 := Lib.hid hw1
  have HM1 := Lib.hid M1
  have S1 := Lib.hid s1
  have HK0 := Lib.hid K0
  have HK1 := Lib.hid K1
  have hg : setT t cl a b (g3 0 0 0) = setT t cl a b (fun _ => 0) := setT_congr hT.bd _ _ _ (fun x hx => by
    have : x = 0 ∨ x = 1 ∨ x = 2 := by omega
    rcases this with rfl | rfl | rfl <;> rfl)
  have HG := Lib.hid hg
  clear hT M1 hw1 s1 K0 K1 hg
  go_enter Tryd.func41, Tryd.ntmps41
  go_wp2_with fail
  rw [← HW1.out]
  refine (rsome_calls w1 base r t a b cl 0 (pOf cl) (pOf_eq cl) HT.out).mono ?_
  rintro e z ⟨v, rfl, ho, mz⟩
  have k0 := mz.cell' HK0.out (by simp)
  have k1 := mz.cell' HK1.out (by simp)
  have hzs : w.heap.size < z.heap.size := by have := mz.size; have := S1.out; omega
  have hTz := HT.out.same mz
  obtain ⟨q, hq⟩ : ∃ q, q = z.alloc (.cells #[.int .i64 0, .int .i64 0, .int .i64 0] 3) := ⟨_, rfl⟩
  have MQ : Mod [] z q := by rw [hq]; exact (Mod.refl [] z).alloc _
  have t0 : q.cell? ⟨z.heap.size, 0, none⟩ = some (.int .i64 ((0 : Nat) : Int)) := by rw [hq]; simp
  have t1 : q.cell? ⟨z.heap.size, 1, none⟩ = some (.int .i64 ((0 : Nat) : Int)) := by rw [hq]; simp
  have t2 : q.cell? ⟨z.heap.size, 2, none⟩ = some (.int .i64 ((0 : Nat) : Int)) := by rw [hq]; simp
  have CS := Lib.hid (rset_calls q base r z.heap.size t cl a b 0 0 0 (hTz.same MQ) (by omega) (by omega) (by omega) t0 t1 t2 (by have := MQ.size; have := HM1.out.size; omega))
  obtain ⟨v0, hbx, -⟩ := hTz.ex
  have HBX := Lib.hid hbx
  have HQ := Lib.hid hq
  have HMQ := Lib.hid MQ
  have HO := Lib.hid ho
  have HMZ := Lib.hid mz
  clear ho mz MQ t0 t1 t2 hq hbx hTz
  go_wp2_with fail
  rw [← HQ.out]
  refine CS.out.mono ?_
  rintro e x ⟨rfl, hTx, mx⟩
  rw [HG.out] at hTx
  have HTX := Lib.hid hTx
  have HMX := Lib.hid mx
  clear hTx mx k0 k1
  go_wp2
  go_ret
  refine ⟨v, rfl, own_base (own_mod HO.out (HMQ.out.nil.trans HMX.out : Mod [r] z x) (fun k hk hs => ?_)) (by have := S1.out; omega), HTX.out, ((HM1.out.trans HMZ.out).trans HMQ.out).nil.trans HMX.out⟩
  have e' : k = r := by simpa using hs
  subst e'
  exact absurd (own_type HO.out k (by simpa using hk) _ _ HBX.out) (by decide)

set_option maxRecDepth 100000 in
set_option maxHeartbeats 2000000 in
theorem rweaken_calls (w : World) (base r : Nat) (t : Nat → Nat → Nat) (cl a b : Int) (hT : RTab w base r t) (hbs : base ≤ w.heap.size) :
    Calls Tryd.prog 42 #[.pointer (some ⟨r, 0, none⟩), .int .i64 cl, .agg #[.int .i64 a, .int .i64 b]] w fun e w' =>
      ∃ v, e = .returned v ∧ w'.ownsRow w.heap.size 39 4 v (someL t a b (pOf2 cl)).length (hcells (someL t a b (pOf2 cl))) ∧ RTab w' base r (setT t cl a b (fun m => min m 1)) ∧ Mod [r] w w' := by
  obtain ⟨w1, hw1⟩ : ∃ w1, w1 = w.alloc (.cells #[.int .i64 a, .int .i64 b] 23) := ⟨_, rfl⟩
  have M1 : Mod [] w w1 := by rw [hw1]; exact (Mod.refl [] w).alloc _
  have K0 : w1.cell? ⟨w.heap.size, 0, none⟩ = some (.int .i64 a) := by rw [hw1]; simp
  have K1 : w1.cell? ⟨w.heap.size, 1, none⟩ = some (.int .i64 b) := by rw [hw1]; simp
  have s1 : w.heap.size + 1 = w1.heap.size := by rw [hw1]; simp
  have HT := Lib.hid (hT.same M1)
  have HW1 := Lib.hid hw1
  have HM1 := Lib.hid M1
  have S1 := Lib.hid s1
  have HK0 := Lib.hid K0
  have HK1 := Lib.hid K1
  have hg : setT t cl a b (g3 0 1 1) = setT t cl a b (fun m => min m 1) := setT_congr hT.bd _ _ _ (fun x hx => by
    have : x = 0 ∨ x = 1 ∨ x = 2 := by omega
    rcases this with rfl | rfl | rfl <;> rfl)
  have HG := Lib.hid hg
  clear hT M1 hw1 s1 K0 K1 hg
  go_enter Tryd.func42, Tryd.ntmps42
  go_wp2_with fail
  rw [← HW1.out]
  refine (rsome_calls w1 base r t a b cl 2 (pOf2 cl) (pOf2_eq cl) HT.out).mono ?_
  rintro e z ⟨v, rfl, ho, mz⟩
  have k0 := mz.cell' HK0.out (by simp)
  have k1 := mz.cell' HK1.out (by simp)
  have hzs : w.heap.size < z.heap.size := by have := mz.size; have := S1.out; omega
  have hTz := HT.out.same mz
  obtain ⟨q, hq⟩ : ∃ q, q = z.alloc (.cells #[.int .i64 0, .int .i64 1, .int .i64 1] 3) := ⟨_, rfl⟩
  have MQ : Mod [] z q := by rw [hq]; exact (Mod.refl [] z).alloc _
  have t0 : q.cell? ⟨z.heap.size, 0, none⟩ = some (.int .i64 ((0 : Nat) : Int)) := by rw [hq]; simp
  have t1 : q.cell? ⟨z.heap.size, 1, none⟩ = some (.int .i64 ((1 : Nat) : Int)) := by rw [hq]; simp
  have t2 : q.cell? ⟨z.heap.size, 2, none⟩ = some (.int .i64 ((1 : Nat) : Int)) := by rw [hq]; simp
  have CS := Lib.hid (rset_calls q base r z.heap.size t cl a b 0 1 1 (hTz.same MQ) (by omega) (by omega) (by omega) t0 t1 t2 (by have := MQ.size; have := HM1.out.size; omega))
  obtain ⟨v0, hbx, -⟩ := hTz.ex
  have HBX := Lib.hid hbx
  have HQ := Lib.hid hq
  have HMQ := Lib.hid MQ
  have HO := Lib.hid ho
  have HMZ := Lib.hid mz
  clear ho mz MQ t0 t1 t2 hq hbx hTz
  go_wp2_with fail
  rw [← HQ.out]
  refine CS.out.mono ?_
  rintro e x ⟨rfl, hTx, mx⟩
  rw [HG.out] at hTx
  have HTX := Lib.hid hTx
  have HMX := Lib.hid mx
  clear hTx mx k0 k1
  go_wp2
  go_ret
  refine ⟨v, rfl, own_base (own_mod HO.out (HMQ.out.nil.trans HMX.out : Mod [r] z x) (fun k hk hs => ?_)) (by have := S1.out; omega), HTX.out, ((HM1.out.trans HMZ.out).trans HMQ.out).nil.trans HMX.out⟩
  have e' : k = r := by simpa using hs
  subst e'
  exact absurd (own_type HO.out k (by simpa using hk) _ _ HBX.out) (by decide)

theorem rdrop_calls (w : World) (base r : Nat) (t : Nat → Nat → Nat) (cl : Int) (hT : RTab w base r t) (hbs : base ≤ w.heap.size) :
    Calls Tryd.prog 49 #[.pointer (some ⟨r, 0, none⟩), .int .i64 cl] w fun e w' =>
      ∃ v, e = .returned v ∧ w'.ownsRow w.heap.size 39 4 v (someL t 0 256 (pOf cl)).length (hcells (someL t 0 256 (pOf cl))) ∧ RTab w' base r (setT t cl 0 256 (fun _ => 0)) ∧ Mod [r] w w' := by
  have C := Lib.hid (rcut_calls w base r t cl 0 256 hT hbs)
  clear hT
  go_enter Tryd.func49, Tryd.ntmps49
  go_wp2_with (go_at_call 41; refine C.out.mono ?_; rintro e w' ⟨v, rfl, ho, hT, hm⟩)
  go_ret
  exact ⟨v, rfl, ho, hT, hm⟩

theorem rhas_eq (t : Nat → Nat → Nat) (c k m : Int) : hasV t c k m = if m = 1 ∨ m = 2 then decide (m ≤ rmode t c k) else false := by
  unfold hasV rmode
  by_cases hc : inC8 c = false
  · rw [if_pos hc]
    split
    · rename_i h
      rw [if_neg (by rw [hc]; simp)]
      simp
      omega
    · rfl
  · rw [if_neg hc]
    have hc' : inC8 c = true := by simpa using hc
    by_cases h1 : k < 0
    · rw [if_pos h1]
      split
      · rename_i h
        rw [if_neg (by omega)]
        simp
        omega
      · rfl
    · rw [if_neg h1]
      by_cases h2 : 256 ≤ k
      · rw [if_pos h2]
        split
        · rename_i h
          rw [if_neg (by omega)]
          simp
          omega
        · rfl
      · rw [if_neg h2]
        by_cases h3 : m ≠ 1 ∧ m ≠ 2
        · rw [if_pos h3, if_neg (by omega)]
        · rw [if_neg h3, if_pos (by omega), if_pos ⟨hc', by omega, by omega⟩]
/-- A list of holds that can be read. -/
def Hs (w : World) (v : Value) (L : List HoldT) : Prop := ∃ p cap, v = .slice p L.length cap ∧ cap ≤ 9223372036854775807 ∧ L.length ≤ cap ∧ (0 < L.length → ∃ g, p = some ⟨g, 0, none⟩ ∧ ∀ i x, L[i]? = some x →
      w.cell? ⟨g, i * 4, none⟩ = some (.int .i64 x.1) ∧ w.cell? ⟨g, i * 4 + 1, none⟩ = some (.int .i64 x.2.1) ∧ w.cell? ⟨g, i * 4 + 2, none⟩ = some (.int .i64 x.2.2.1) ∧ w.cell? ⟨g, i * 4 + 3, none⟩ = some (.int .i64 x.2.2.2))
theorem hs_own {w : World} {base : Nat} {e : TypeId} {v : Value} {L : List HoldT} (h : w.ownsRow base e 4 v L.length (hcells L)) : Hs w v L := by
  obtain ⟨p, cap, rfl, h1, h2, h3⟩ := own_holds' h
  exact ⟨p, cap, rfl, h2, h1, fun hn => let ⟨g, e, _, _, hx⟩ := h3 hn; ⟨g, e, hx⟩⟩
theorem Hs.same {w w' : World} {v : Value} {L : List HoldT} (h : Hs w v L) (m : Mod [] w w') : Hs w' v L := by
  obtain ⟨p, cap, e, h1, h2, h3⟩ := h
  refine ⟨p, cap, e, h1, h2, fun hn => ?_⟩
  obtain ⟨g, e, hx⟩ := h3 hn
  exact ⟨g, e, fun i x hi => ⟨m.cell' (hx i x hi).1 (by simp), m.cell' (hx i x hi).2.1 (by simp), m.cell' (hx i x hi).2.2.1 (by simp), m.cell' (hx i x hi).2.2.2 (by simp)⟩⟩
def sameN (A B : List HoldT) (n : Nat) : Prop := ∀ i, i < n → A[i]? = B[i]?

set_option maxRecDepth 100000 in
set_option maxHeartbeats 2000000 in
theorem same_calls (w : World) (va vb : Value) (A B : List HoldT) (hA : Hs w va A) (hB : Hs w vb B) :
    Calls Tryd.prog 24 #[va, vb] w fun e w' => e = .returned (.bool (decide (A = B))) ∧ Mod [] w w' := by
  obtain ⟨p, cap, rfl, hc1, hc2, hx⟩ := hA
  obtain ⟨p', cap', rfl, hd1, hd2, hy⟩ := hB
  by_cases hl : A.length = B.length
  rotate_left
  · have E := Lib.hid (show decide (A = B) = false by
      simp only [decide_eq_false_iff_not]
      intro h
      exact hl (by rw [h]))
    have f1 : ((A.length : Int) != (B.length : Int)) = true := by simp; omega
    go_enter Tryd.func24, Tryd.ntmps24
    go_wp2
    go_ret
    exact ⟨by rw [E.out]; rfl, Mod.refl _ _⟩
  · rw [← hl] at hy hd2 ⊢
    obtain ⟨n, hn⟩ : ∃ n, n = A.length := ⟨_, rfl⟩
    rw [← hn] at hx hy hc2 hd2 ⊢
    have HN := Lib.hid hn
    have HL := Lib.hid hl
    clear hn hl
    go_enter Tryd.func24, Tryd.ntmps24
    go_wp2
    go_loopw [5] (fun i wr => ∃ j : Nat, j ≤ n ∧ i = .int .i64 j ∧ Mod [] w wr ∧ Hid (sameN A B j)) (fun i _ => n - (intOf i).toNat)
    case atStart => exact ⟨0, Nat.zero_le _, rfl, Mod.refl _ _, Lib.hid (fun i hi => absurd hi (by omega))⟩
    case round =>
      obtain ⟨j, hj, rfl, hM, hS⟩ := hrel
      by_cases hlt : j < n
      · obtain ⟨g, rfl, hgx⟩ := hx (by omega)
        obtain ⟨g', rfl, hgy⟩ := hy (by omega)
        have hjA : j < A.length := by rw [← HN.out]; exact hlt
        have hjB : j < B.length := by rw [← HL.out, ← HN.out]; exact hlt
        obtain ⟨⟨x1, x2, x3, x4⟩, hh⟩ : ∃ h, A[j]? = some h := ⟨_, List.getElem?_eq_getElem hjA⟩
        obtain ⟨⟨z1, z2, z3, z4⟩, hh'⟩ : ∃ h, B[j]? = some h := ⟨_, List.getElem?_eq_getElem hjB⟩
        obtain ⟨y0, y1, y2, y3⟩ := hgx j _ hh
        obtain ⟨u0, u1, u2, u3⟩ := hgy j _ hh'
        dsimp only at y0 y1 y2 y3 u0 u1 u2 u3
        replace y0 := hM.cell' y0 (by simp)
        replace y1 := hM.cell' y1 (by simp)
        replace y2 := hM.cell' y2 (by simp)
        replace y3 := hM.cell' y3 (by simp)
        replace u0 := hM.cell' u0 (by simp)
        replace u1 := hM.cell' u1 (by simp)
        replace u2 := hM.cell' u2 (by simp)
        replace u3 := hM.cell' u3 (by simp)
        have i0 : (0 : Int) ≤ (j : Int) := by omega
        have i1 : (j : Int) < (n : Int) := by omega
        have HH := Lib.hid hh
        have HH' := Lib.hid hh'
        clear hgx hgy hx hy hh hh' hjA hjB
        by_cases he : x1 = z1 ∧ x2 = z2 ∧ x3 = z3 ∧ x4 = z4
        · obtain ⟨rfl, rfl, rfl, rfl⟩ := he
          have HS' := Lib.hid (fun i hi => by
            rcases Nat.lt_or_ge i j with h | h
            · exact hS.out i h
            · obtain rfl : i = j := by omega
              rw [HH.out, HH'.out] : sameN A B (j + 1))
          clear hS
          go_wp2_with fail
          go_quiet (fail)
          go_wp2
          go_roundw
          case rel => exact ⟨j + 1, by omega, by go_num, hM.drewN _, Lib.hid HS'.out⟩
          case measure => simp [intOf]; omega
        · have E := Lib.hid (show decide (A = B) = false by
            simp only [decide_eq_false_iff_not]
            rintro rfl
            have := HH.out.symm.trans HH'.out
            simp at this
            exact he ⟨this.1, this.2.1, this.2.2.1, this.2.2.2⟩)
          have hne : (x1 : Int) ≠ z1 ∨ (x2 : Int) ≠ z2 ∨ (x3 : Int) ≠ z3 ∨ (x4 : Int) ≠ z4 := by omega
          clear he
          rcases hne with h | h | h | h
          all_goals
            go_wp2_with fail
            go_quiet (fail)
            go_wp2
            go_ret
            exact ⟨by rw [E.out]; rfl, hM.drewN _⟩
      · obtain rfl : j = n := by omega
        have hlt' : decide (j < j) = false := by simp
        have E := Lib.hid (show decide (A = B) = true by
          simp only [decide_eq_true_eq]
          apply List.ext_getElem?
          intro i
          rcases Nat.lt_or_ge i j with h | h
          · exact hS.out i h
          · rw [List.getElem?_eq_none (by rw [← HN.out]; exact h), List.getElem?_eq_none (by rw [← HL.out, ← HN.out]; exact h)])
        go_wp2
        go_ret
        exact ⟨by rw [E.out]; rfl, hM⟩
end Go.Proofs.YtijjbkkcienfgaaDoor
