/- Whether two holds clash: the program's and the document's; the closures over it. No condition beyond what stands in each. -/
import Derived.Test.YtijjbkkcienfgaaDoorGr3
import Derived.WalkLawsBesides
namespace Go.Proofs.YtijjbkkcienfgaaDoor
open Go.RowKit
set_option linter.unusedVariables false
set_option linter.unusedSimpArgs false
attribute [local go_sem ↓] Go.wp_at_zero Go.wp_at_succ

/-- Do two holds clash? -/
def clashB (x y : HoldT) : Bool := decide (x.2.2.1 ≠ y.2.2.1) && (decide (max x.1 y.1 < min x.2.1 y.2.1) && decide (x.2.2.2 = 2 ∨ y.2.2.2 = 2))
theorem clashB_c {x y : HoldT} (h : x.2.2.1 = y.2.2.1) : clashB x y = false := by simp [clashB, h]
theorem clashB_m {x y : HoldT} (h : ¬ max x.1 y.1 < min x.2.1 y.2.1) : clashB x y = false := by
  unfold clashB
  rw [decide_eq_false h]
  simp
theorem clashB_k {x y : HoldT} (h : x.2.2.1 ≠ y.2.2.1) (h2 : max x.1 y.1 < min x.2.1 y.2.1) : clashB x y = decide (x.2.2.2 = 2 ∨ y.2.2.2 = 2) := by
  unfold clashB
  rw [decide_eq_true h, decide_eq_true h2]
  simp
set_option maxRecDepth 100000 in
set_option maxHeartbeats 2000000 in
theorem clash_calls (w : World) (x y : HoldT) (hx : x.2.2.2 ≤ 2) (hy : y.2.2.2 ≤ 2) :
    Calls Tryd.prog 133 #[.agg #[.int .i64 x.1, .int .i64 x.2.1, .int .i64 x.2.2.1, .int .i64 x.2.2.2], .agg #[.int .i64 y.1, .int .i64 y.2.1, .int .i64 y.2.2.1, .int .i64 y.2.2.2]] w fun e w' => e = .returned (.bool (clashB x y)) ∧ Mod [] w w' := by
  obtain ⟨a, b, c, m⟩ := x
  obtain ⟨a', b', c', m'⟩ := y
  simp only at hx hy ⊢
  by_cases h1 : c = c'
  · have E := Lib.hid (clashB_c (x := (a, b, c, m)) (y := (a', b', c', m')) h1)
    have t1 : ((c : Int) != (c' : Int)) = false := by simp; omega
    clear h1
    go_enter Tryd.func133, Tryd.ntmps133
    go_wp2
    go_ret
    exact ⟨by rw [E.out]; rfl, ((Mod.refl _ _).alloc _).alloc _⟩
  have t1 : ((c : Int) != (c' : Int)) = true := by simp; omega
  by_cases h2 : max a a' < min b b'
  rotate_left
  · have E := Lib.hid (clashB_m (x := (a, b, c, m)) (y := (a', b', c', m')) h2)
    clear h1
    go_enter Tryd.func133, Tryd.ntmps133
    go_wp2
    all_goals
      go_ret
      exact ⟨by rw [E.out]; rfl, ((Mod.refl _ _).alloc _).alloc _⟩
  · have E := Lib.hid (clashB_k (x := (a, b, c, m)) (y := (a', b', c', m')) h1 h2)
    clear h1
    by_cases hm : m = 2 ∨ m' = 2
    · have E2 := Lib.hid (E.out.trans (decide_eq_true hm))
      go_enter Tryd.func133, Tryd.ntmps133
      go_wp2
      all_goals
        go_ret
        exact ⟨by rw [E2.out]; first | rfl | (congr 2; simp; omega), ((Mod.refl _ _).alloc _).alloc _⟩
    · have E2 := Lib.hid (E.out.trans (decide_eq_false hm))
      go_enter Tryd.func133, Tryd.ntmps133
      go_wp2
      all_goals
        go_ret
        exact ⟨by rw [E2.out]; first | rfl | (congr 2; simp; omega), ((Mod.refl _ _).alloc _).alloc _⟩
set_option maxRecDepth 100000 in
set_option maxHeartbeats 2000000 in
theorem rclash_calls (w : World) (x y : HoldT) :
    Calls Tryd.prog 28 #[.agg #[.int .i64 x.1, .int .i64 x.2.1, .int .i64 x.2.2.1, .int .i64 x.2.2.2], .agg #[.int .i64 y.1, .int .i64 y.2.1, .int .i64 y.2.2.1, .int .i64 y.2.2.2]] w fun e w' => e = .returned (.bool (clashB x y)) ∧ Mod [] w w' := by
  obtain ⟨a, b, c, m⟩ := x
  obtain ⟨a', b', c', m'⟩ := y
  simp only
  obtain ⟨w1, hw1⟩ : ∃ w1, w1 = (w.alloc (.cells #[.int .i64 a, .int .i64 b, .int .i64 c, .int .i64 m] 39)).alloc (.cells #[.int .i64 a', .int .i64 b', .int .i64 c', .int .i64 m'] 39) := ⟨_, rfl⟩
  have m1 : Mod [] w w1 := by rw [hw1]; exact ((Mod.refl _ _).alloc _).alloc _
  have A1 : Arr w1 w.heap.size 39 4 (fun i => if i = 0 then .int .i64 a else if i = 1 then .int .i64 b else if i = 2 then .int .i64 c else .int .i64 m) := by
    rw [hw1]
    exact (Arr.new' w _ _ 4 _ rfl (fun i hi => by
      match i, hi with
      | 0, _ | 1, _ | 2, _ | 3, _ => rfl)).alloc _
  have A2 : Arr w1 (w.heap.size + 1) 39 4 (fun i => if i = 0 then .int .i64 a' else if i = 1 then .int .i64 b' else if i = 2 then .int .i64 c' else .int .i64 m') := by
    rw [hw1]
    have h := Arr.new' (w.alloc (.cells #[.int .i64 a, .int .i64 b, .int .i64 c, .int .i64 m] 39)) #[.int .i64 a', .int .i64 b', .int .i64 c', .int .i64 m'] 39 4 (fun i => if i = 0 then .int .i64 a' else if i = 1 then .int .i64 b' else if i = 2 then .int .i64 c' else .int .i64 m') rfl (fun i hi => by
      match i, hi with
      | 0, _ | 1, _ | 2, _ | 3, _ => rfl)
    have e : (w.alloc (.cells #[.int .i64 a, .int .i64 b, .int .i64 c, .int .i64 m] 39)).heap.size = w.heap.size + 1 := by simp
    rw [e] at h
    exact h
  have HW1 := Lib.hid hw1
  have M1 := Lib.hid m1
  have HA1 := Lib.hid A1
  have HA2 := Lib.hid A2
  have C1 := Lib.hid (meet_calls w1 a b a' b')
  clear hw1 m1 A1 A2
  go_enter Tryd.func28, Tryd.ntmps28
  go_wp2_with fail
  rw [← HW1.out]
  refine C1.out.mono ?_
  rintro e w2 ⟨rfl, m2⟩
  have B1 := HA1.out.mod m2 (by simp)
  have B2 := HA2.out.mod m2 (by simp)
  have x2 := B1.cell 2 (by omega)
  have x3 := B1.cell 3 (by omega)
  have y2 := B2.cell 2 (by omega)
  have y3 := B2.cell 3 (by omega)
  simp only [if_true, if_false, Nat.reduceEqDiff] at x2 x3 y2 y3
  have M2 := Lib.hid (M1.out.trans m2)
  have hz1 := B1.lt
  have hz2 := B2.lt
  clear m2 B1 B2
  have fin : ∀ o, Mod [] w (w2.alloc o) := fun o => M2.out.alloc o
  have FIN := Lib.hid fin
  clear fin
  by_cases h1 : c = c'
  · have E := Lib.hid (clashB_c (x := (a, b, c, m)) (y := (a', b', c', m')) h1)
    have t1 : ((c : Int) != (c' : Int)) = false := by simp; omega
    clear h1
    go_wp2
    go_ret
    exact ⟨by rw [E.out]; rfl, FIN.out _⟩
  have t1 : ((c : Int) != (c' : Int)) = true := by simp; omega
  by_cases h2 : max a a' < min b b'
  rotate_left
  · have E := Lib.hid (clashB_m (x := (a, b, c, m)) (y := (a', b', c', m')) h2)
    have t2 : decide (max (a : Int) (a' : Int) < min (b : Int) (b' : Int)) = false := by simp; omega
    clear h1 h2
    generalize max (a : Int) (a' : Int) = u at *
    generalize min (b : Int) (b' : Int) = v at *
    go_wp2
    all_goals
      go_ret
      exact ⟨by rw [E.out]; rfl, FIN.out _⟩
  · have E := Lib.hid (clashB_k (x := (a, b, c, m)) (y := (a', b', c', m')) h1 h2)
    have t2 : decide (max (a : Int) (a' : Int) < min (b : Int) (b' : Int)) = true := by simp; omega
    clear h1 h2
    generalize max (a : Int) (a' : Int) = u at *
    generalize min (b : Int) (b' : Int) = v at *
    by_cases hm : m = 2
    · have E2 := Lib.hid (E.out.trans (decide_eq_true (.inl hm)))
      have t3 : ((m : Int) == 2) = true := by simp; omega
      clear hm
      go_wp2
      go_ret
      exact ⟨by rw [E2.out]; rfl, FIN.out _⟩
    · have t3 : ((m : Int) == 2) = false := by simp; omega
      by_cases hm' : m' = 2
      · have E2 := Lib.hid (E.out.trans (decide_eq_true (.inr hm')))
        have t4 : ((m' : Int) == 2) = true := by simp; omega
        clear hm hm'
        go_wp2
        go_ret
        exact ⟨by rw [E2.out]; rfl, FIN.out _⟩
      · have E2 := Lib.hid (E.out.trans (decide_eq_false (fun h => h.elim hm hm')))
        have t4 : ((m' : Int) == 2) = false := by simp; omega
        clear hm hm'
        go_wp2
        go_ret
        exact ⟨by rw [E2.out]; rfl, FIN.out _⟩
end Go.Proofs.YtijjbkkcienfgaaDoor
