/- Commands in memory; the closures of the service's methods. No condition beyond what stands in each. -/
import Derived.Test.YtijjbkkcienfgaaDoorGr4
namespace Go.Proofs.YtijjbkkcienfgaaDoor
open Go.RowKit
set_option linter.unusedVariables false
set_option linter.unusedSimpArgs false
attribute [local go_sem ↓] Go.wp_at_zero Go.wp_at_succ

/-- A command: its numbers. -/
structure CmdT where
  k : Int
  c : Int
  q : Int
  n : Int
  l : Int
  a : Int
  b : Int
  m : Int
  o : Int
def CmdT.f (x : CmdT) (i : Nat) : Value := .int .i64 (if i = 0 then x.k else if i = 1 then x.c else if i = 2 then x.q else if i = 3 then x.n else if i = 4 then x.l else if i = 5 then x.a else if i = 6 then x.b else if i = 7 then x.m else x.o)
def CmdT.arr (x : CmdT) : Array Value := #[.int .i64 x.k, .int .i64 x.c, .int .i64 x.q, .int .i64 x.n, .int .i64 x.l, .int .i64 x.a, .int .i64 x.b, .int .i64 x.m, .int .i64 x.o]
theorem cmd_new (w : World) (T : Nat) (x : CmdT) : Arr (w.alloc (.cells x.arr T)) w.heap.size T 9 x.f := Arr.new' w _ _ 9 _ rfl (fun i hi => by
  match i, hi with
  | 0, _ | 1, _ | 2, _ | 3, _ | 4, _ | 5, _ | 6, _ | 7, _ | 8, _ => rfl)
def holdF (x : HoldT) (i : Nat) : Value := if i = 0 then .int .i64 x.1 else if i = 1 then .int .i64 x.2.1 else if i = 2 then .int .i64 x.2.2.1 else .int .i64 x.2.2.2
theorem hold_new (w : World) (x : HoldT) : Arr (w.alloc (.cells #[.int .i64 x.1, .int .i64 x.2.1, .int .i64 x.2.2.1, .int .i64 x.2.2.2] 39)) w.heap.size 39 4 (holdF x) := Arr.new' w _ _ 4 _ rfl (fun i hi => by
  match i, hi with
  | 0, _ | 1, _ | 2, _ | 3, _ => rfl)
theorem ask1_calls (w : World) (cb : Nat) (c : Int) (x : HoldT) (h : w.cell? ⟨cb, 1, none⟩ = some (.int .i64 c)) :
    Calls Tryd.prog 116 (#[.agg #[.int .i64 x.1, .int .i64 x.2.1, .int .i64 x.2.2.1, .int .i64 x.2.2.2]] ++ #[.pointer (some ⟨cb, 0, none⟩)]) w fun e w' => e = .returned (.bool (decide ((x.2.2.1 : Int) = c))) ∧ Mod [] w w' := by
  have hl := World.block_lt_of_cell? w _ h
  simp only at hl
  by_cases e : (x.2.2.1 : Int) = c
  · subst e
    go_enter Tryd.func116, Tryd.ntmps116
    go_wp2
    go_ret
    exact ⟨by simp, (Mod.refl _ _).alloc _⟩
  · have t1 : ((x.2.2.1 : Int) == c) = false := by simpa using e
    have E := Lib.hid (decide_eq_false e)
    clear e
    go_enter Tryd.func116, Tryd.ntmps116
    go_wp2
    go_ret
    exact ⟨by rw [E.out]; rfl, (Mod.refl _ _).alloc _⟩
theorem cancel1_calls (w : World) (cb : Nat) (c : Int) (x : HoldT) (h : w.cell? ⟨cb, 1, none⟩ = some (.int .i64 c)) :
    Calls Tryd.prog 130 (#[.agg #[.int .i64 x.1, .int .i64 x.2.1, .int .i64 x.2.2.1, .int .i64 x.2.2.2]] ++ #[.pointer (some ⟨cb, 0, none⟩)]) w fun e w' => e = .returned (.bool (decide ((x.2.2.1 : Int) = c))) ∧ Mod [] w w' := by
  have hl := World.block_lt_of_cell? w _ h
  simp only at hl
  by_cases e : (x.2.2.1 : Int) = c
  · subst e
    go_enter Tryd.func130, Tryd.ntmps130
    go_wp2
    go_ret
    exact ⟨by simp, (Mod.refl _ _).alloc _⟩
  · have t1 : ((x.2.2.1 : Int) == c) = false := by simpa using e
    have E := Lib.hid (decide_eq_false e)
    clear e
    go_enter Tryd.func130, Tryd.ntmps130
    go_wp2
    go_ret
    exact ⟨by rw [E.out]; rfl, (Mod.refl _ _).alloc _⟩
theorem recover1_calls (w : World) (cb : Nat) (c : Int) (x : HoldT) (h : w.cell? ⟨cb, 8, none⟩ = some (.int .i64 c)) :
    Calls Tryd.prog 127 (#[.agg #[.int .i64 x.1, .int .i64 x.2.1, .int .i64 x.2.2.1, .int .i64 x.2.2.2]] ++ #[.pointer (some ⟨cb, 0, none⟩)]) w fun e w' => e = .returned (.bool (decide (¬ (x.2.2.1 : Int) = c))) ∧ Mod [] w w' := by
  have hl := World.block_lt_of_cell? w _ h
  simp only at hl
  by_cases e : (x.2.2.1 : Int) = c
  · subst e
    go_enter Tryd.func127, Tryd.ntmps127
    go_wp2
    go_ret
    exact ⟨by simp, (Mod.refl _ _).alloc _⟩
  · have t1 : ((x.2.2.1 : Int) != c) = true := by simpa using e
    have E := Lib.hid (decide_eq_true e)
    clear e
    go_enter Tryd.func127, Tryd.ntmps127
    go_wp2
    go_ret
    exact ⟨by rw [E.out]; rfl, (Mod.refl _ _).alloc _⟩
theorem give1_calls (w : World) (hb : Nat) (h x : HoldT) (hA : Arr w hb 39 4 (holdF h)) (hh : h.2.2.2 ≤ 2) (hx : x.2.2.2 ≤ 2) :
    Calls Tryd.prog 132 (#[.agg #[.int .i64 x.1, .int .i64 x.2.1, .int .i64 x.2.2.1, .int .i64 x.2.2.2]] ++ #[.pointer (some ⟨hb, 0, none⟩)]) w fun e w' => e = .returned (.bool (clashB x h)) ∧ Mod [] w w' := by
  obtain ⟨w1, hw1⟩ : ∃ w1, w1 = w.alloc (.cells #[.int .i64 x.1, .int .i64 x.2.1, .int .i64 x.2.2.1, .int .i64 x.2.2.2] 39) := ⟨_, rfl⟩
  have m1 : Mod [] w w1 := by rw [hw1]; exact (Mod.refl _ _).alloc _
  have B := hA.mod m1 (by simp)
  have y0 := B.cell 0 (by omega)
  have y1 := B.cell 1 (by omega)
  have y2 := B.cell 2 (by omega)
  have y3 := B.cell 3 (by omega)
  unfold holdF at y0 y1 y2 y3
  simp only [if_true, if_false, Nat.reduceEqDiff] at y0 y1 y2 y3
  have C := Lib.hid (clash_calls w1 x h hx hh)
  have HW1 := Lib.hid hw1
  have M1 := Lib.hid m1
  rw [hw1] at y0 y1 y2 y3
  clear hw1 m1 B hA
  go_enter Tryd.func132, Tryd.ntmps132
  go_wp2_with fail
  rw [← HW1.out]
  refine C.out.mono ?_
  rintro e w2 ⟨rfl, m2⟩
  have M2 := Lib.hid (M1.out.trans m2)
  clear m2
  go_wp2
  go_ret
  exact ⟨rfl, M2.out⟩
theorem sweep1_calls (w : World) (pb sv bB : Nat) (u s : Nat → Int) (d : Nat → Bool) (x : HoldT) (hp : w.cell? ⟨pb, 0, none⟩ = some (.pointer (some ⟨sv, 0, none⟩))) (h1 : w.cell? ⟨sv, 1, none⟩ = some (.pointer (some ⟨bB, 0, none⟩))) (hB : Bk w bB u s d) :
    Calls Tryd.prog 125 (#[.agg #[.int .i64 x.1, .int .i64 x.2.1, .int .i64 x.2.2.1, .int .i64 x.2.2.2]] ++ #[.pointer (some ⟨pb, 0, none⟩)]) w fun e w' => e = .returned (.bool (deadV d x.2.2.1)) ∧ Mod [] w w' := by
  obtain ⟨w1, hw1⟩ : ∃ w1, w1 = w.alloc (.cells #[.int .i64 x.1, .int .i64 x.2.1, .int .i64 x.2.2.1, .int .i64 x.2.2.2] 39) := ⟨_, rfl⟩
  have m1 : Mod [] w w1 := by rw [hw1]; exact (Mod.refl _ _).alloc _
  have A1 : Arr w1 w.heap.size 39 4 (holdF x) := by rw [hw1]; exact hold_new w x
  have y2 := A1.cell 2 (by omega)
  unfold holdF at y2
  simp only [if_true, if_false, Nat.reduceEqDiff] at y2
  have p1 := m1.cell' hp (by simp)
  have q1 := m1.cell' h1 (by simp)
  have C := Lib.hid (bkDead_calls w1.drew bB u s d x.2.2.1 ((hB.mod m1 (by simp)).drew))
  have KS := Lib.hid (And.intro p1 (And.intro q1 y2))
  have HW1 := Lib.hid hw1
  have M1 := Lib.hid m1
  rw [hw1] at p1 q1 y2
  clear hw1 m1 A1 hB hp h1
  go_enter Tryd.func125, Tryd.ntmps125
  go_wp2
  rw [← HW1.out] at *
  go_region_held3 (fun w' => w'.cell? ⟨pb, 0, none⟩ = some (.pointer (some ⟨sv, 0, none⟩)) ∧ w'.cell? ⟨sv, 1, none⟩ = some (.pointer (some ⟨bB, 0, none⟩)) ∧ w'.cell? ⟨w.heap.size, 2, none⟩ = some (.int .i64 x.2.2.1))
    (exact KS.out)
    (first
      | (go_at_call 15; (with_reducible refine C.out.mono ?_); rintro e w2 ⟨rfl, rfl⟩))
  go_wp2
  go_ret
  exact ⟨rfl, M1.out.drew⟩
end Go.Proofs.YtijjbkkcienfgaaDoor
