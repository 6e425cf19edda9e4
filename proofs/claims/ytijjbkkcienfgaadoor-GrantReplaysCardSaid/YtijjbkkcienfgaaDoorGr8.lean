/- Who lives: the program's and the document's. No condition beyond what stands in each. May a client recover another one? The program's and the document's. No condition beyond what stands in each. -/
import Derived.Test.YtijjbkkcienfgaaDoorGr6
namespace Go.Proofs.YtijjbkkcienfgaaDoor
open Go.RowKit
set_option linter.unusedVariables false
set_option linter.unusedSimpArgs false
attribute [local go_sem ↓] Go.wp_at_zero Go.wp_at_succ

theorem livesB_dead {u : Nat → Int} {d : Nat → Bool} {c : Int} (h : deadV d c = true) : livesB u d c = false := by simp [livesB, h]
theorem livesB_live {u : Nat → Int} {d : Nat → Bool} {c : Int} (h : deadV d c = false) : livesB u d c = decide (0 ≤ untilV u c) := by simp [livesB, h]
set_option maxHeartbeats 1000000 in
theorem lives_calls (w : World) (sv bB : Nat) (u s : Nat → Int) (d : Nat → Bool) (c : Int) (h1 : w.cell? ⟨sv, 1, none⟩ = some (.pointer (some ⟨bB, 0, none⟩))) (hB : Bk w bB u s d) :
    Calls Tryd.prog 114 #[.pointer (some ⟨sv, 0, none⟩), .int .i64 c] w fun e w' => e = .returned (.bool (livesB u d c)) ∧ w = w' := by
  have C := Lib.hid (bkDead_calls w bB u s d c hB)
  have U := Lib.hid (bkUntil_calls w bB u s d c hB)
  by_cases hd : deadV d c = true
  · have E := Lib.hid (livesB_dead (u := u) hd)
    have HD := Lib.hid hd
    clear hd hB
    go_enter Tryd.func114, Tryd.ntmps114
    go_wp2_with (go_at_call 15; refine C.out.mono ?_; rintro e w2 ⟨rfl, rfl⟩; rw [HD.out])
    go_ret
    exact ⟨by rw [E.out]; rfl, rfl⟩
  · have hd' : deadV d c = false := by simpa using hd
    have E := Lib.hid (livesB_live (u := u) hd')
    have HD := Lib.hid hd'
    clear hd hd' hB
    go_enter Tryd.func114, Tryd.ntmps114
    go_wp2_with (first
      | (go_at_call 15; refine C.out.mono ?_; rintro e w2 ⟨rfl, rfl⟩; rw [HD.out])
      | (go_at_call 17; refine U.out.mono ?_; rintro e w2 ⟨rfl, rfl⟩))
    go_ret
    exact ⟨by rw [E.out]; rfl, rfl⟩
set_option maxHeartbeats 1000000 in
theorem rlives_calls (w : World) (sv bB gT gS gD cap : Nat) (u s : Nat → Int) (d : Nat → Bool) (c : Int) (h1 : w.cell? ⟨sv, 1, none⟩ = some (.pointer (some ⟨bB, 0, none⟩))) (hB : RBk w bB gT gS gD cap u s d) :
    Calls Tryd.prog 47 #[.pointer (some ⟨sv, 0, none⟩), .int .i64 c] w fun e w' => e = .returned (.bool (livesB u d c)) ∧ w = w' := by
  have C := Lib.hid (rbDead_calls w bB gT gS gD cap u s d c hB)
  have U := Lib.hid (rbUntil_calls w bB gT gS gD cap u s d c hB)
  by_cases hd : deadV d c = true
  · have E := Lib.hid (livesB_dead (u := u) hd)
    have HD := Lib.hid hd
    clear hd hB
    go_enter Tryd.func47, Tryd.ntmps47
    go_wp2_with (go_at_call 26; refine C.out.mono ?_; rintro e w2 ⟨rfl, rfl⟩; rw [HD.out])
    go_ret
    exact ⟨by rw [E.out]; rfl, rfl⟩
  · have hd' : deadV d c = false := by simpa using hd
    have E := Lib.hid (livesB_live (u := u) hd')
    have HD := Lib.hid hd'
    clear hd hd' hB
    go_enter Tryd.func47, Tryd.ntmps47
    go_wp2_with (first
      | (go_at_call 26; refine C.out.mono ?_; rintro e w2 ⟨rfl, rfl⟩; rw [HD.out])
      | (go_at_call 27; refine U.out.mono ?_; rintro e w2 ⟨rfl, rfl⟩))
    go_ret
    exact ⟨by rw [E.out]; rfl, rfl⟩

def recB (u : Nat → Int) (d : Nat → Bool) (c o : Int) : Int := if livesB u d c = false then 200 else if deadV d o = false then 3 else 0
theorem recB_of (x : GS) (c : CmdT) : x.recE c = recB x.u x.d c.c c.o := rfl
set_option maxRecDepth 100000 in
set_option maxHeartbeats 2000000 in
theorem recovering_calls (w : World) (sv bB : Nat) (u s : Nat → Int) (d : Nat → Bool) (c : CmdT) (h1 : w.cell? ⟨sv, 1, none⟩ = some (.pointer (some ⟨bB, 0, none⟩))) (hB : Bk w bB u s d) :
    Calls Tryd.prog 126 #[.pointer (some ⟨sv, 0, none⟩), .agg c.arr] w fun e w' => e = .returned (.int .i64 (recB u d c.c c.o)) ∧ Mod [] w w' := by
  obtain ⟨w1, hw1⟩ : ∃ w1, w1 = w.alloc (.cells c.arr 37) := ⟨_, rfl⟩
  have m1 : Mod [] w w1 := by rw [hw1]; exact (Mod.refl _ _).alloc _
  have A1 : Arr w1 w.heap.size 37 9 c.f := by rw [hw1]; exact cmd_new w _ c
  have y1 := A1.cell 1 (by omega)
  have y8 := A1.cell 8 (by omega)
  simp only [CmdT.f, if_true, if_false, Nat.reduceEqDiff] at y1 y8
  have q1 := m1.cell' h1 (by simp)
  have hB1 := hB.mod m1 (by simp)
  have L := Lib.hid (lives_calls w1 sv bB u s d c.c q1 hB1)
  have C := Lib.hid (bkDead_calls w1.drew bB u s d c.o hB1.drew)
  have KS := Lib.hid (And.intro q1 y8)
  have HW1 := Lib.hid hw1
  have M1 := Lib.hid m1
  have E := Lib.hid (rfl : recB u d c.c c.o = if livesB u d c.c = false then 200 else if deadV d c.o = false then 3 else 0)
  rw [hw1] at q1 y1 y8
  clear hw1 m1 A1 hB hB1 h1
  unfold CmdT.arr at HW1 q1 y1 y8 ⊢
  by_cases e1 : livesB u d c.c = false
  · have F := Lib.hid (E.out.trans (if_pos e1))
    have E1 := Lib.hid e1
    clear e1
    go_enter Tryd.func126, Tryd.ntmps126
    go_wp2_with fail
    rw [← HW1.out] at *
    refine L.out.mono ?_
    rintro e w2 ⟨rfl, rfl⟩
    rw [E1.out]
    go_wp2
    go_ret
    exact ⟨by rw [F.out]; rfl, M1.out⟩
  have e1' : livesB u d c.c = true := by simpa using e1
  have E0 := Lib.hid (E.out.trans (if_neg e1))
  have E1 := Lib.hid e1'
  clear e1 e1'
  by_cases e2 : deadV d c.o = false
  · have F := Lib.hid (E0.out.trans (if_pos e2))
    have E2 := Lib.hid e2
    clear e2
    go_enter Tryd.func126, Tryd.ntmps126
    go_wp2_with fail
    rw [← HW1.out] at *
    refine L.out.mono ?_
    rintro e w2 ⟨rfl, rfl⟩
    rw [E1.out]
    go_wp2
    go_region_held3 (fun w' => w'.cell? ⟨sv, 1, none⟩ = some (.pointer (some ⟨bB, 0, none⟩)) ∧ w'.cell? ⟨w.heap.size, 8, none⟩ = some (.int .i64 c.o))
      (exact KS.out)
      (first
        | (go_at_call 15; (with_reducible refine C.out.mono ?_); rintro e w2 ⟨rfl, rfl⟩; rw [E2.out]))
    go_wp2
    go_ret
    exact ⟨by rw [F.out]; rfl, M1.out.drew⟩
  · have e2' : deadV d c.o = true := by simpa using e2
    have F := Lib.hid (E0.out.trans (if_neg e2))
    have E2 := Lib.hid e2'
    clear e2 e2'
    go_enter Tryd.func126, Tryd.ntmps126
    go_wp2_with fail
    rw [← HW1.out] at *
    refine L.out.mono ?_
    rintro e w2 ⟨rfl, rfl⟩
    rw [E1.out]
    go_wp2
    go_region_held3 (fun w' => w'.cell? ⟨sv, 1, none⟩ = some (.pointer (some ⟨bB, 0, none⟩)) ∧ w'.cell? ⟨w.heap.size, 8, none⟩ = some (.int .i64 c.o))
      (exact KS.out)
      (first
        | (go_at_call 15; (with_reducible refine C.out.mono ?_); rintro e w2 ⟨rfl, rfl⟩; rw [E2.out]))
    go_wp2
    go_ret
    exact ⟨by rw [F.out]; rfl, M1.out.drew⟩
set_option maxRecDepth 100000 in
set_option maxHeartbeats 2000000 in
theorem rrecovering_calls (w : World) (sv bB gT gS gD cap : Nat) (u s : Nat → Int) (d : Nat → Bool) (c : CmdT) (h1 : w.cell? ⟨sv, 1, none⟩ = some (.pointer (some ⟨bB, 0, none⟩))) (hB : RBk w bB gT gS gD cap u s d) :
    Calls Tryd.prog 46 #[.pointer (some ⟨sv, 0, none⟩), .agg c.arr] w fun e w' => e = .returned (.int .i64 (recB u d c.c c.o)) ∧ Mod [] w w' := by
  obtain ⟨w1, hw1⟩ : ∃ w1, w1 = w.alloc (.cells c.arr 59) := ⟨_, rfl⟩
  have m1 : Mod [] w w1 := by rw [hw1]; exact (Mod.refl _ _).alloc _
  have A1 : Arr w1 w.heap.size 59 9 c.f := by rw [hw1]; exact cmd_new w _ c
  have y1 := A1.cell 1 (by omega)
  have y8 := A1.cell 8 (by omega)
  simp only [CmdT.f, if_true, if_false, Nat.reduceEqDiff] at y1 y8
  have q1 := m1.cell' h1 (by simp)
  have hB1 := hB.mod m1 (by simp) (by simp) (by simp) (by simp)
  have L := Lib.hid (rlives_calls w1 sv bB gT gS gD cap u s d c.c q1 hB1)
  have C := Lib.hid (rbDead_calls w1.drew bB gT gS gD cap u s d c.o hB1.drew)
  have KS := Lib.hid (And.intro q1 y8)
  have HW1 := Lib.hid hw1
  have M1 := Lib.hid m1
  have E := Lib.hid (rfl : recB u d c.c c.o = if livesB u d c.c = false then 200 else if deadV d c.o = false then 3 else 0)
  rw [hw1] at q1 y1 y8
  clear hw1 m1 A1 hB hB1 h1
  unfold CmdT.arr at HW1 q1 y1 y8 ⊢
  by_cases e1 : livesB u d c.c = false
  · have F := Lib.hid (E.out.trans (if_pos e1))
    have E1 := Lib.hid e1
    clear e1
    go_enter Tryd.func46, Tryd.ntmps46
    go_wp2_with fail
    rw [← HW1.out] at *
    refine L.out.mono ?_
    rintro e w2 ⟨rfl, rfl⟩
    rw [E1.out]
    go_wp2
    go_ret
    exact ⟨by rw [F.out]; rfl, M1.out⟩
  have e1' : livesB u d c.c = true := by simpa using e1
  have E0 := Lib.hid (E.out.trans (if_neg e1))
  have E1 := Lib.hid e1'
  clear e1 e1'
  by_cases e2 : deadV d c.o = false
  · have F := Lib.hid (E0.out.trans (if_pos e2))
    have E2 := Lib.hid e2
    clear e2
    go_enter Tryd.func46, Tryd.ntmps46
    go_wp2_with fail
    rw [← HW1.out] at *
    refine L.out.mono ?_
    rintro e w2 ⟨rfl, rfl⟩
    rw [E1.out]
    go_wp2
    go_region_held3 (fun w' => w'.cell? ⟨sv, 1, none⟩ = some (.pointer (some ⟨bB, 0, none⟩)) ∧ w'.cell? ⟨w.heap.size, 8, none⟩ = some (.int .i64 c.o))
      (exact KS.out)
      (first
        | (go_at_call 26; (with_reducible refine C.out.mono ?_); rintro e w2 ⟨rfl, rfl⟩; rw [E2.out]))
    go_wp2
    go_ret
    exact ⟨by rw [F.out]; rfl, M1.out.drew⟩
  · have e2' : deadV d c.o = true := by simpa using e2
    have F := Lib.hid (E0.out.trans (if_neg e2))
    have E2 := Lib.hid e2'
    clear e2 e2'
    go_enter Tryd.func46, Tryd.ntmps46
    go_wp2_with fail
    rw [← HW1.out] at *
    refine L.out.mono ?_
    rintro e w2 ⟨rfl, rfl⟩
    rw [E1.out]
    go_wp2
    go_region_held3 (fun w' => w'.cell? ⟨sv, 1, none⟩ = some (.pointer (some ⟨bB, 0, none⟩)) ∧ w'.cell? ⟨w.heap.size, 8, none⟩ = some (.int .i64 c.o))
      (exact KS.out)
      (first
        | (go_at_call 26; (with_reducible refine C.out.mono ?_); rintro e w2 ⟨rfl, rfl⟩; rw [E2.out]))
    go_wp2
    go_ret
    exact ⟨by rw [F.out]; rfl, M1.out.drew⟩
end Go.Proofs.YtijjbkkcienfgaaDoor
