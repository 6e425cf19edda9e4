/- The walk of the law SpanParts, where the two first numbers are one. The premise: the variable 'whole' holds what its initialiser lays. -/
import Derived.Test.YtkajedgghoboaaaDoorPartsM
namespace Go.Proofs.YtkajedgghoboaaaDoor
open Go.RowKit
set_option linter.unusedVariables false
set_option linter.unusedSimpArgs false
attribute [local go_sem ↓] Go.wp_at_zero Go.wp_at_succ

set_option maxRecDepth 100000 in
set_option maxHeartbeats 8000000 in
theorem parts_caseB (W : World) (HT : Hid (Whole W)) (C0 : Hid (Calls Tryd.prog 15 #[] W fun e w' => e = .returned (.bool true) ∧ Mod [] W w')) (n0 n1 n2 n3 n4 n5 : Nat) (g0 : n0 < 256) (g1 : n1 < 256) (g2 : n2 < 256) (g3 : n3 < 256) (g4 : n4 < 256) (g5 : n5 < 256) (hh : n0 = n1) :
    Calls Tryd.prog 4 #[.int .u8 n0, .int .u8 n1, .int .u8 n2, .int .u8 n3, .int .u8 n4, .int .u8 n5] W fun e w' => e = .returned (.bool true) ∧ Below W.heap.size W w' := by
  subst hh
  obtain ⟨r2, p, r3, q, c, m0, m, N⟩ := nums_of n2 n3 n4 n5 n0 (n0 + 1) (by omega) (by omega)
  have HN := Lib.hid N
  have E3 : wrap64 ((n0 : Int) + (n2 : Int) % ((n0 : Int) + 1 - n0)) = p := by have h1 := N.e1; have h2 := N.e3; rw [Int.natCast_succ] at h1; rw [h1]; exact h2
  have E7 : wrap64 ((p : Int) + 1 + (n3 : Int) % ((n0 : Int) + 1 - p)) = q := by have h1 := N.e5; have h2 := N.e7; rw [Int.natCast_succ] at h1; rw [h1]; exact h2
  have E8 := N.e8
  have E10 : 1 + (n4 : Int) % 2 = m := by rw [N.e9]; exact N.e10
  have H3 := Lib.hid E3
  have H7 := Lib.hid E7
  have H8 := Lib.hid E8
  have H10 := Lib.hid E10
  have hp1 : p ≤ n0 := by have := N.pq; have := N.qb; omega
  have HP := Lib.hid hp1
  clear N E3 E7 E8 E10 hp1
  go_enter Tryd.func4, Tryd.ntmps4
  go_wp2_with (first
    | (go_at_call 15; refine C0.out.mono ?_; rintro e z1 ⟨rfl, m1⟩))
  rw [H3.out]
  have hp1 := HP.out
  have hp2 : ¬ ((n0 : Int) + 1 - p = 0) := by omega
  have hp5 : Int.tmod (n3 : Int) ((n0 : Int) + 1 - p) = (n3 : Int) % ((n0 : Int) + 1 - p) := Int.tmod_eq_emod_of_nonneg (by omega)
  have hw0 : IntKind.i64.wrap (n3 : Int) = n3 := (wrap_eq _).trans (wrap_small _ (by omega) (by omega))
  have hw1 : IntKind.i64.wrap ((n0 : Int) + 1 - p) = (n0 : Int) + 1 - p := (wrap_eq _).trans (wrap_small _ (by omega) (by omega))
  have hw2 : IntKind.i64.wrap ((p : Int) + 1) = (p : Int) + 1 := (wrap_eq _).trans (wrap_small _ (by omega) (by omega))
  have hw3 : IntKind.i64.wrap ((p : Int) + 1 + (n3 : Int) % ((n0 : Int) + 1 - p)) = q := (wrap_eq _).trans H7.out
  go_region_held2 (fun w' => w'.cell? ⟨z1.heap.size, 0, none⟩ = some (.int .i64 p)) (simp) (fail)
  clear hp1 hp2 hp5 hw0 hw1 hw2 hw3
  go_wp2_with fail
  rw [H8.out, H10.out]
  have P1 := put_first (c := c) (x1 := n0) (x2 := n0 + 1) (m := m) HN.out.c8 HN.out.mm HN.out.x HN.out.x2b
  rw [Int.natCast_succ] at P1
  have PE1 := Lib.hid P1
  obtain ⟨Z, hZ⟩ : ∃ Z, Z = ((z1.alloc (Obj.cells #[Value.int IntKind.i64 p, Value.int IntKind.i64 q] 23)).alloc (Obj.cells #[Value.int IntKind.i64 n0, Value.int IntKind.i64 ((n0 : Int) + 1), Value.int IntKind.i64 c, Value.int IntKind.i64 m] 31)).drew := ⟨_, rfl⟩
  rw [← hZ]
  have hs : z1.heap.size + 2 = Z.heap.size := by rw [hZ]; simp
  have k0 : Z.cell? ⟨z1.heap.size, 0, none⟩ = some (.int .i64 p) := by rw [hZ]; simp
  have k1 : Z.cell? ⟨z1.heap.size, 1, none⟩ = some (.int .i64 q) := by rw [hZ]; simp
  have k2 : Z.cell? ⟨z1.heap.size + 1, 0, none⟩ = some (.int .i64 n0) := by rw [hZ]; simp
  have k3 : Z.cell? ⟨z1.heap.size + 1, 1, none⟩ = some (.int .i64 ((n0 : Int) + 1)) := by rw [hZ]; simp
  have k4 : Z.cell? ⟨z1.heap.size + 1, 2, none⟩ = some (.int .i64 c) := by rw [hZ]; simp
  have k5 : Z.cell? ⟨z1.heap.size + 1, 3, none⟩ = some (.int .i64 m) := by rw [hZ]; simp
  have MZ : Mod [] z1 Z := by rw [hZ]; exact (((Mod.refl [] z1).alloc _).alloc _).drew
  have MW := Lib.hid (m1.trans MZ)
  clear hZ P1 m1 MZ
  refine (spNew_calls Z).mono ?_
  rintro e z3 ⟨rfl, hz3⟩
  have T3 := tb_new Z
  rw [hz3] at T3
  have M3 : Mod [] Z z3 := by rw [← hz3]; exact (Mod.refl [] Z).alloc _
  have W3 := Lib.hid ((HT.out.mod MW.out (by simp)).mod M3 (by simp))
  replace k0 := M3.cell' k0 (by simp)
  replace k1 := M3.cell' k1 (by simp)
  replace k2 := M3.cell' k2 (by simp)
  replace k3 := M3.cell' k3 (by simp)
  replace k4 := M3.cell' k4 (by simp)
  replace k5 := M3.cell' k5 (by simp)
  have T3' := Lib.hid T3
  have MM := Lib.hid (MW.out.trans M3)
  clear T3 M3 hz3
  go_wp2_with fail
  refine (spPut_calls z3 Z.heap.size _ n0 ((n0 : Int) + 1) c m T3'.out W3.out (by omega)).mono ?_
  rintro e z4 ⟨rfl, T4, M4⟩
  rw [PE1.out.1]
  rw [PE1.out.2] at T4
  replace k0 := M4.cell' k0 (by simp; omega)
  replace k1 := M4.cell' k1 (by simp; omega)
  replace k2 := M4.cell' k2 (by simp; omega)
  replace k3 := M4.cell' k3 (by simp; omega)
  replace k4 := M4.cell' k4 (by simp; omega)
  replace k5 := M4.cell' k5 (by simp; omega)
  have W4 := Lib.hid (W3.out.mod M4 (by simp; omega))
  have M4' := Lib.hid (MM.out.nil.trans M4 : Mod [Z.heap.size] W z4)
  have T4' := Lib.hid T4
  clear T4 M4
  go_wp2_with fail
  refine (spCut_calls z4 Z.heap.size _ c p q T4'.out).mono ?_
  rintro e z5 ⟨v, rfl, ho, T5, M5⟩
  rw [cut_some HN.out.c8 HN.out.pa HN.out.pq HN.out.qb HN.out.x2b (by have := HN.out.mm; omega)] at ho
  rw [cut_set HN.out.c8 HN.out.pa HN.out.pq HN.out.qb HN.out.x2b] at T5
  obtain ⟨g, cap, rfl, hg1, hg2, j0, j1, j2, j3⟩ := own_one (e := 31) (a := .int .i64 p) (b := .int .i64 q) (c := .int .i64 c) (d := .int .i64 m) ho
  clear ho
  replace k0 := M5.cell' k0 (by simp; omega)
  replace k1 := M5.cell' k1 (by simp; omega)
  replace k2 := M5.cell' k2 (by simp; omega)
  replace k3 := M5.cell' k3 (by simp; omega)
  replace k4 := M5.cell' k4 (by simp; omega)
  replace k5 := M5.cell' k5 (by simp; omega)
  have W5 := Lib.hid (W4.out.mod M5 (by simp; omega))
  have M5' := Lib.hid (M4'.out.fresh M5 (fun x hx => .inl hx))
  have hs3 := T4'.out.lt
  have T5' := Lib.hid T5
  have LEN := Lib.hid (list_tH HN.out.c8 HN.out.pa HN.out.pq HN.out.qb HN.out.x2b (by have := HN.out.mm; omega) : (listL (tH c n0 p q (n0 + 1) m)).length = _)
  have LI := list_tO (c := c) (x1 := n0) (x2 := n0 + 1) (m := m) HN.out.c8 HN.out.x HN.out.x2b (by have := HN.out.mm; omega)
  have LI' := Lib.hid LI
  have PA := Lib.hid (put_again HN.out.c8 HN.out.mm HN.out.pa HN.out.pq HN.out.qb HN.out.x2b : putE (tH c n0 p q (n0 + 1) m) p q c m = 0 ∧ _)
  clear T5 M5 LI
  by_cases e1 : n0 < p
  · have e1' : (n0 : Int) < (p : Int) := by omega
    by_cases e2 : q < n0 + 1
    · have e2' : (q : Int) < (n0 : Int) + 1 := by omega
      have hR : (listL (tH c n0 p q (n0 + 1) m)).length = 2 := by rw [LEN.out]; simp only [e1, e2]; rfl
      have T5d : Tb z5.drew Z.heap.size (tH c n0 p q (n0 + 1) m) := ⟨T5'.out.arr.drew, T5'.out.bd⟩
      have CL := Lib.hid ((spList_calls z5.drew Z.heap.size _ T5d (W5.out.mod ((Mod.refl [] z5).drew) (by simp))).mono (R' := fun e w' => ∃ p9 cap9, e = .returned (.slice p9 2 cap9) ∧ Mod [] z5 w') (by
        rintro e w' ⟨v, rfl, ho, hm⟩
        rw [hR] at ho
        obtain ⟨p9, cap9, rfl⟩ := own_slice ho
        exact ⟨p9, cap9, rfl, (Mod.refl [] z5).drew.trans hm⟩))
      clear hR T5d
      go_wp2_with fail
      go_region_held2 (fun w' => w'.cell? ⟨z1.heap.size, 0, none⟩ = some (.int .i64 p) ∧ w'.cell? ⟨z1.heap.size, 1, none⟩ = some (.int .i64 q) ∧ w'.cell? ⟨z1.heap.size + 1, 3, none⟩ = some (.int .i64 m) ∧
          w'.cell? ⟨g, 0, none⟩ = some (.int .i64 p) ∧ w'.cell? ⟨g, 1, none⟩ = some (.int .i64 q) ∧ w'.cell? ⟨g, 3, none⟩ = some (.int .i64 m))
        (first
          | exact ⟨by simpa using k0, by simpa using k1, by simpa using k5, by simpa using j0, by simpa using j1, by simpa using j3⟩
          | exact ⟨M6.cell' k0 (by simp), M6.cell' k1 (by simp), M6.cell' k5 (by simp), M6.cell' j0 (by simp), M6.cell' j1 (by simp), M6.cell' j3 (by simp)⟩)
        ((go_at_call 20; refine CL.out.mono ?_; rintro e z6 ⟨p9, cap9, rfl, M6⟩))
      replace k2 := M6.cell' k2 (by simp)
      replace k3 := M6.cell' k3 (by simp)
      replace k4 := M6.cell' k4 (by simp)
      replace k5 := M6.cell' k5 (by simp)
      replace j0 := M6.cell' j0 (by simp)
      replace j1 := M6.cell' j1 (by simp)
      replace j2 := M6.cell' j2 (by simp)
      replace j3 := M6.cell' j3 (by simp)
      have W6 := Lib.hid (W5.out.mod M6 (by simp))
      have MW6 := Lib.hid (M5'.out.trans M6.nil)
      have T6 := Lib.hid (T5'.out.mod M6 (by simp))
      have s6 := M6.size
      clear M6 k0 k1
      go_wp2_with fail
      refine (spPut_calls z6 Z.heap.size _ p q c m T6.out W6.out (by omega)).mono ?_
      rintro e z7 ⟨rfl, T7, M7⟩
      rw [PA.out.1]
      rw [PA.out.2] at T7
      replace k2 := M7.cell' k2 (by simp; omega)
      replace k3 := M7.cell' k3 (by simp; omega)
      replace k4 := M7.cell' k4 (by simp; omega)
      replace k5 := M7.cell' k5 (by simp; omega)
      have W7 := Lib.hid (W6.out.mod M7 (by simp; omega))
      have MW7 := Lib.hid (MW6.out.trans M7)
      have T7' := Lib.hid T7
      clear T7 M7 j0 j1 j2 j3
      go_wp2_with fail
      refine (spList_calls z7 Z.heap.size _ T7'.out W7.out).mono ?_
      rintro e z8 ⟨v8, rfl, ho8, M8⟩
      rw [LI'.out] at ho8
      obtain ⟨g8, cap8, rfl, hg8, hg9, y0, y1, y2, y3⟩ := own_one (e := 31) (a := .int .i64 n0) (b := .int .i64 ((n0 + 1 : Nat) : Int)) (c := .int .i64 c) (d := .int .i64 m) ho8
      rw [Int.natCast_succ] at y1
      replace k2 := M8.cell' k2 (by simp)
      replace k3 := M8.cell' k3 (by simp)
      replace k4 := M8.cell' k4 (by simp)
      replace k5 := M8.cell' k5 (by simp)
      have MW8 := Lib.hid (MW7.out.trans M8.nil)
      clear ho8 M8
      go_wp2_with fail
      go_region_held2 (fun w' => w'.cell? ⟨z1.heap.size + 1, 0, none⟩ = some (.int .i64 n0) ∧ w'.cell? ⟨z1.heap.size + 1, 1, none⟩ = some (.int .i64 ((n0 : Int) + 1)) ∧ w'.cell? ⟨z1.heap.size + 1, 2, none⟩ = some (.int .i64 c) ∧ w'.cell? ⟨z1.heap.size + 1, 3, none⟩ = some (.int .i64 m) ∧
          w'.cell? ⟨g8, 0, none⟩ = some (.int .i64 n0) ∧ w'.cell? ⟨g8, 1, none⟩ = some (.int .i64 ((n0 : Int) + 1)) ∧ w'.cell? ⟨g8, 2, none⟩ = some (.int .i64 c) ∧ w'.cell? ⟨g8, 3, none⟩ = some (.int .i64 m))
        (exact ⟨by simpa using k2, by simpa using k3, by simpa using k4, by simpa using k5, by simpa using y0, by simpa using y1, by simpa using y2, by simpa using y3⟩) (fail)
      go_wp2
      refine bodyPost_ret (results_tmp rfl _ _ _) rfl ?_
      exact ⟨rfl, MW8.out.drew.below (Nat.le_refl _) (fun x hx => by simp at hx; have := MW.out.size; omega)⟩
    · have e2' : ¬ (q : Int) < (n0 : Int) + 1 := by omega
      have e2'' : decide ((q : Int) < (n0 : Int) + 1) = false := by simpa using e2'
      have hR : (listL (tH c n0 p q (n0 + 1) m)).length = 1 := by rw [LEN.out]; simp only [e1, e2]; rfl
      have T5d : Tb z5.drew Z.heap.size (tH c n0 p q (n0 + 1) m) := ⟨T5'.out.arr.drew, T5'.out.bd⟩
      have CL := Lib.hid ((spList_calls z5.drew Z.heap.size _ T5d (W5.out.mod ((Mod.refl [] z5).drew) (by simp))).mono (R' := fun e w' => ∃ p9 cap9, e = .returned (.slice p9 1 cap9) ∧ Mod [] z5 w') (by
        rintro e w' ⟨v, rfl, ho, hm⟩
        rw [hR] at ho
        obtain ⟨p9, cap9, rfl⟩ := own_slice ho
        exact ⟨p9, cap9, rfl, (Mod.refl [] z5).drew.trans hm⟩))
      clear hR T5d
      go_wp2_with fail
      go_region_held2 (fun w' => w'.cell? ⟨z1.heap.size, 0, none⟩ = some (.int .i64 p) ∧ w'.cell? ⟨z1.heap.size, 1, none⟩ = some (.int .i64 q) ∧ w'.cell? ⟨z1.heap.size + 1, 3, none⟩ = some (.int .i64 m) ∧
          w'.cell? ⟨g, 0, none⟩ = some (.int .i64 p) ∧ w'.cell? ⟨g, 1, none⟩ = some (.int .i64 q) ∧ w'.cell? ⟨g, 3, none⟩ = some (.int .i64 m))
        (first
          | exact ⟨by simpa using k0, by simpa using k1, by simpa using k5, by simpa using j0, by simpa using j1, by simpa using j3⟩
          | exact ⟨M6.cell' k0 (by simp), M6.cell' k1 (by simp), M6.cell' k5 (by simp), M6.cell' j0 (by simp), M6.cell' j1 (by simp), M6.cell' j3 (by simp)⟩)
        ((go_at_call 20; refine CL.out.mono ?_; rintro e z6 ⟨p9, cap9, rfl, M6⟩))
      replace k2 := M6.cell' k2 (by simp)
      replace k3 := M6.cell' k3 (by simp)
      replace k4 := M6.cell' k4 (by simp)
      replace k5 := M6.cell' k5 (by simp)
      replace j0 := M6.cell' j0 (by simp)
      replace j1 := M6.cell' j1 (by simp)
      replace j2 := M6.cell' j2 (by simp)
      replace j3 := M6.cell' j3 (by simp)
      have W6 := Lib.hid (W5.out.mod M6 (by simp))
      have MW6 := Lib.hid (M5'.out.trans M6.nil)
      have T6 := Lib.hid (T5'.out.mod M6 (by simp))
      have s6 := M6.size
      clear M6 k0 k1
      go_wp2_with fail
      refine (spPut_calls z6 Z.heap.size _ p q c m T6.out W6.out (by omega)).mono ?_
      rintro e z7 ⟨rfl, T7, M7⟩
      rw [PA.out.1]
      rw [PA.out.2] at T7
      replace k2 := M7.cell' k2 (by simp; omega)
      replace k3 := M7.cell' k3 (by simp; omega)
      replace k4 := M7.cell' k4 (by simp; omega)
      replace k5 := M7.cell' k5 (by simp; omega)
      have W7 := Lib.hid (W6.out.mod M7 (by simp; omega))
      have MW7 := Lib.hid (MW6.out.trans M7)
      have T7' := Lib.hid T7
      clear T7 M7 j0 j1 j2 j3
      go_wp2_with fail
      refine (spList_calls z7 Z.heap.size _ T7'.out W7.out).mono ?_
      rintro e z8 ⟨v8, rfl, ho8, M8⟩
      rw [LI'.out] at ho8
      obtain ⟨g8, cap8, rfl, hg8, hg9, y0, y1, y2, y3⟩ := own_one (e := 31) (a := .int .i64 n0) (b := .int .i64 ((n0 + 1 : Nat) : Int)) (c := .int .i64 c) (d := .int .i64 m) ho8
      rw [Int.natCast_succ] at y1
      replace k2 := M8.cell' k2 (by simp)
      replace k3 := M8.cell' k3 (by simp)
      replace k4 := M8.cell' k4 (by simp)
      replace k5 := M8.cell' k5 (by simp)
      have MW8 := Lib.hid (MW7.out.trans M8.nil)
      clear ho8 M8
      go_wp2_with fail
      go_region_held2 (fun w' => w'.cell? ⟨z1.heap.size + 1, 0, none⟩ = some (.int .i64 n0) ∧ w'.cell? ⟨z1.heap.size + 1, 1, none⟩ = some (.int .i64 ((n0 : Int) + 1)) ∧ w'.cell? ⟨z1.heap.size + 1, 2, none⟩ = some (.int .i64 c) ∧ w'.cell? ⟨z1.heap.size + 1, 3, none⟩ = some (.int .i64 m) ∧
          w'.cell? ⟨g8, 0, none⟩ = some (.int .i64 n0) ∧ w'.cell? ⟨g8, 1, none⟩ = some (.int .i64 ((n0 : Int) + 1)) ∧ w'.cell? ⟨g8, 2, none⟩ = some (.int .i64 c) ∧ w'.cell? ⟨g8, 3, none⟩ = some (.int .i64 m))
        (exact ⟨by simpa using k2, by simpa using k3, by simpa using k4, by simpa using k5, by simpa using y0, by simpa using y1, by simpa using y2, by simpa using y3⟩) (fail)
      go_wp2
      refine bodyPost_ret (results_tmp rfl _ _ _) rfl ?_
      exact ⟨rfl, MW8.out.drew.below (Nat.le_refl _) (fun x hx => by simp at hx; have := MW.out.size; omega)⟩
  · have e1' : ¬ (n0 : Int) < (p : Int) := by omega
    have e1'' : decide (n0 < p) = false := by simpa using e1
    by_cases e2 : q < n0 + 1
    · have e2' : (q : Int) < (n0 : Int) + 1 := by omega
      have hR : (listL (tH c n0 p q (n0 + 1) m)).length = 1 := by rw [LEN.out]; simp only [e1, e2]; rfl
      have T5d : Tb z5.drew Z.heap.size (tH c n0 p q (n0 + 1) m) := ⟨T5'.out.arr.drew, T5'.out.bd⟩
      have CL := Lib.hid ((spList_calls z5.drew Z.heap.size _ T5d (W5.out.mod ((Mod.refl [] z5).drew) (by simp))).mono (R' := fun e w' => ∃ p9 cap9, e = .returned (.slice p9 1 cap9) ∧ Mod [] z5 w') (by
        rintro e w' ⟨v, rfl, ho, hm⟩
        rw [hR] at ho
        obtain ⟨p9, cap9, rfl⟩ := own_slice ho
        exact ⟨p9, cap9, rfl, (Mod.refl [] z5).drew.trans hm⟩))
      clear hR T5d
      go_wp2_with fail
      go_region_held2 (fun w' => w'.cell? ⟨z1.heap.size, 0, none⟩ = some (.int .i64 p) ∧ w'.cell? ⟨z1.heap.size, 1, none⟩ = some (.int .i64 q) ∧ w'.cell? ⟨z1.heap.size + 1, 3, none⟩ = some (.int .i64 m) ∧
          w'.cell? ⟨g, 0, none⟩ = some (.int .i64 p) ∧ w'.cell? ⟨g, 1, none⟩ = some (.int .i64 q) ∧ w'.cell? ⟨g, 3, none⟩ = some (.int .i64 m))
        (first
          | exact ⟨by simpa using k0, by simpa using k1, by simpa using k5, by simpa using j0, by simpa using j1, by simpa using j3⟩
          | exact ⟨M6.cell' k0 (by simp), M6.cell' k1 (by simp), M6.cell' k5 (by simp), M6.cell' j0 (by simp), M6.cell' j1 (by simp), M6.cell' j3 (by simp)⟩)
        ((go_at_call 20; refine CL.out.mono ?_; rintro e z6 ⟨p9, cap9, rfl, M6⟩))
      replace k2 := M6.cell' k2 (by simp)
      replace k3 := M6.cell' k3 (by simp)
      replace k4 := M6.cell' k4 (by simp)
      replace k5 := M6.cell' k5 (by simp)
      replace j0 := M6.cell' j0 (by simp)
      replace j1 := M6.cell' j1 (by simp)
      replace j2 := M6.cell' j2 (by simp)
      replace j3 := M6.cell' j3 (by simp)
      have W6 := Lib.hid (W5.out.mod M6 (by simp))
      have MW6 := Lib.hid (M5'.out.trans M6.nil)
      have T6 := Lib.hid (T5'.out.mod M6 (by simp))
      have s6 := M6.size
      clear M6 k0 k1
      go_wp2_with fail
      refine (spPut_calls z6 Z.heap.size _ p q c m T6.out W6.out (by omega)).mono ?_
      rintro e z7 ⟨rfl, T7, M7⟩
      rw [PA.out.1]
      rw [PA.out.2] at T7
      replace k2 := M7.cell' k2 (by simp; omega)
      replace k3 := M7.cell' k3 (by simp; omega)
      replace k4 := M7.cell' k4 (by simp; omega)
      replace k5 := M7.cell' k5 (by simp; omega)
      have W7 := Lib.hid (W6.out.mod M7 (by simp; omega))
      have MW7 := Lib.hid (MW6.out.trans M7)
      have T7' := Lib.hid T7
      clear T7 M7 j0 j1 j2 j3
      go_wp2_with fail
      refine (spList_calls z7 Z.heap.size _ T7'.out W7.out).mono ?_
      rintro e z8 ⟨v8, rfl, ho8, M8⟩
      rw [LI'.out] at ho8
      obtain ⟨g8, cap8, rfl, hg8, hg9, y0, y1, y2, y3⟩ := own_one (e := 31) (a := .int .i64 n0) (b := .int .i64 ((n0 + 1 : Nat) : Int)) (c := .int .i64 c) (d := .int .i64 m) ho8
      rw [Int.natCast_succ] at y1
      replace k2 := M8.cell' k2 (by simp)
      replace k3 := M8.cell' k3 (by simp)
      replace k4 := M8.cell' k4 (by simp)
      replace k5 := M8.cell' k5 (by simp)
      have MW8 := Lib.hid (MW7.out.trans M8.nil)
      clear ho8 M8
      go_wp2_with fail
      go_region_held2 (fun w' => w'.cell? ⟨z1.heap.size + 1, 0, none⟩ = some (.int .i64 n0) ∧ w'.cell? ⟨z1.heap.size + 1, 1, none⟩ = some (.int .i64 ((n0 : Int) + 1)) ∧ w'.cell? ⟨z1.heap.size + 1, 2, none⟩ = some (.int .i64 c) ∧ w'.cell? ⟨z1.heap.size + 1, 3, none⟩ = some (.int .i64 m) ∧
          w'.cell? ⟨g8, 0, none⟩ = some (.int .i64 n0) ∧ w'.cell? ⟨g8, 1, none⟩ = some (.int .i64 ((n0 : Int) + 1)) ∧ w'.cell? ⟨g8, 2, none⟩ = some (.int .i64 c) ∧ w'.cell? ⟨g8, 3, none⟩ = some (.int .i64 m))
        (exact ⟨by simpa using k2, by simpa using k3, by simpa using k4, by simpa using k5, by simpa using y0, by simpa using y1, by simpa using y2, by simpa using y3⟩) (fail)
      go_wp2
      refine bodyPost_ret (results_tmp rfl _ _ _) rfl ?_
      exact ⟨rfl, MW8.out.drew.below (Nat.le_refl _) (fun x hx => by simp at hx; have := MW.out.size; omega)⟩
    · have e2' : ¬ (q : Int) < (n0 : Int) + 1 := by omega
      have e2'' : decide ((q : Int) < (n0 : Int) + 1) = false := by simpa using e2'
      have hR : (listL (tH c n0 p q (n0 + 1) m)).length = 0 := by rw [LEN.out]; simp only [e1, e2]; rfl
      have T5d : Tb z5.drew Z.heap.size (tH c n0 p q (n0 + 1) m) := ⟨T5'.out.arr.drew, T5'.out.bd⟩
      have CL := Lib.hid ((spList_calls z5.drew Z.heap.size _ T5d (W5.out.mod ((Mod.refl [] z5).drew) (by simp))).mono (R' := fun e w' => ∃ p9 cap9, e = .returned (.slice p9 0 cap9) ∧ Mod [] z5 w') (by
        rintro e w' ⟨v, rfl, ho, hm⟩
        rw [hR] at ho
        obtain ⟨p9, cap9, rfl⟩ := own_slice ho
        exact ⟨p9, cap9, rfl, (Mod.refl [] z5).drew.trans hm⟩))
      clear hR T5d
      go_wp2_with fail
      go_region_held2 (fun w' => w'.cell? ⟨z1.heap.size, 0, none⟩ = some (.int .i64 p) ∧ w'.cell? ⟨z1.heap.size, 1, none⟩ = some (.int .i64 q) ∧ w'.cell? ⟨z1.heap.size + 1, 3, none⟩ = some (.int .i64 m) ∧
          w'.cell? ⟨g, 0, none⟩ = some (.int .i64 p) ∧ w'.cell? ⟨g, 1, none⟩ = some (.int .i64 q) ∧ w'.cell? ⟨g, 3, none⟩ = some (.int .i64 m))
        (first
          | exact ⟨by simpa using k0, by simpa using k1, by simpa using k5, by simpa using j0, by simpa using j1, by simpa using j3⟩
          | exact ⟨M6.cell' k0 (by simp), M6.cell' k1 (by simp), M6.cell' k5 (by simp), M6.cell' j0 (by simp), M6.cell' j1 (by simp), M6.cell' j3 (by simp)⟩)
        ((go_at_call 20; refine CL.out.mono ?_; rintro e z6 ⟨p9, cap9, rfl, M6⟩))
      replace k2 := M6.cell' k2 (by simp)
      replace k3 := M6.cell' k3 (by simp)
      replace k4 := M6.cell' k4 (by simp)
      replace k5 := M6.cell' k5 (by simp)
      replace j0 := M6.cell' j0 (by simp)
      replace j1 := M6.cell' j1 (by simp)
      replace j2 := M6.cell' j2 (by simp)
      replace j3 := M6.cell' j3 (by simp)
      have W6 := Lib.hid (W5.out.mod M6 (by simp))
      have MW6 := Lib.hid (M5'.out.trans M6.nil)
      have T6 := Lib.hid (T5'.out.mod M6 (by simp))
      have s6 := M6.size
      clear M6 k0 k1
      go_wp2_with fail
      refine (spPut_calls z6 Z.heap.size _ p q c m T6.out W6.out (by omega)).mono ?_
      rintro e z7 ⟨rfl, T7, M7⟩
      rw [PA.out.1]
      rw [PA.out.2] at T7
      replace k2 := M7.cell' k2 (by simp; omega)
      replace k3 := M7.cell' k3 (by simp; omega)
      replace k4 := M7.cell' k4 (by simp; omega)
      replace k5 := M7.cell' k5 (by simp; omega)
      have W7 := Lib.hid (W6.out.mod M7 (by simp; omega))
      have MW7 := Lib.hid (MW6.out.trans M7)
      have T7' := Lib.hid T7
      clear T7 M7 j0 j1 j2 j3
      go_wp2_with fail
      refine (spList_calls z7 Z.heap.size _ T7'.out W7.out).mono ?_
      rintro e z8 ⟨v8, rfl, ho8, M8⟩
      rw [LI'.out] at ho8
      obtain ⟨g8, cap8, rfl, hg8, hg9, y0, y1, y2, y3⟩ := own_one (e := 31) (a := .int .i64 n0) (b := .int .i64 ((n0 + 1 : Nat) : Int)) (c := .int .i64 c) (d := .int .i64 m) ho8
      rw [Int.natCast_succ] at y1
      replace k2 := M8.cell' k2 (by simp)
      replace k3 := M8.cell' k3 (by simp)
      replace k4 := M8.cell' k4 (by simp)
      replace k5 := M8.cell' k5 (by simp)
      have MW8 := Lib.hid (MW7.out.trans M8.nil)
      clear ho8 M8
      go_wp2_with fail
      go_region_held2 (fun w' => w'.cell? ⟨z1.heap.size + 1, 0, none⟩ = some (.int .i64 n0) ∧ w'.cell? ⟨z1.heap.size + 1, 1, none⟩ = some (.int .i64 ((n0 : Int) + 1)) ∧ w'.cell? ⟨z1.heap.size + 1, 2, none⟩ = some (.int .i64 c) ∧ w'.cell? ⟨z1.heap.size + 1, 3, none⟩ = some (.int .i64 m) ∧
          w'.cell? ⟨g8, 0, none⟩ = some (.int .i64 n0) ∧ w'.cell? ⟨g8, 1, none⟩ = some (.int .i64 ((n0 : Int) + 1)) ∧ w'.cell? ⟨g8, 2, none⟩ = some (.int .i64 c) ∧ w'.cell? ⟨g8, 3, none⟩ = some (.int .i64 m))
        (exact ⟨by simpa using k2, by simpa using k3, by simpa using k4, by simpa using k5, by simpa using y0, by simpa using y1, by simpa using y2, by simpa using y3⟩) (fail)
      go_wp2
      refine bodyPost_ret (results_tmp rfl _ _ _) rfl ?_
      exact ⟨rfl, MW8.out.drew.below (Nat.le_refl _) (fun x hx => by simp at hx; have := MW.out.size; omega)⟩
end Go.Proofs.YtkajedgghoboaaaDoor
