/- What Given and Give of the document's clerk come to. No condition beyond what stands in each. -/
import Derived.Test.YtkajedgghoboaaaDoorRClerk2
import Derived.Test.YtkajedgghoboaaaDoorClerkP
namespace Go.Proofs.YtkajedgghoboaaaDoor
open Go.RowKit
set_option linter.unusedVariables false
set_option linter.unusedSimpArgs false
attribute [local go_sem ↓] Go.wp_at_zero Go.wp_at_succ

theorem putE_zero (x y c m : Int) : putE (fun _ _ => 0) x y c m = if inC8 c = false then 1 else if m ≠ 1 ∧ m ≠ 2 then 1 else if blk x y = false then 71 else 0 := by
  by_cases h1 : inC8 c = false
  · simp [putE, h1]
  by_cases h2 : m ≠ 1 ∧ m ≠ 2
  · simp [putE, h1, h2]
  rw [if_neg h1, if_neg h2]
  by_cases h3 : blk x y = false
  · rw [if_pos h3]
    unfold putE
    rw [if_neg h1, if_neg h2]
    by_cases g1 : x < 0
    · rw [if_pos g1]
    · by_cases g2 : y ≤ x
      · rw [if_neg g1, if_pos g2]
      · rw [if_neg g1, if_neg g2, if_pos (by
          simp only [blk, Bool.and_eq_false_iff, decide_eq_false_iff_not] at h3
          omega)]
  rw [if_neg h3]
  have h3' : blk x y = true := by simpa using h3
  have h1' : inC8 c = true := by simpa using h1
  simp only [inC8, decide_eq_true_eq] at h1'
  obtain ⟨c', rfl⟩ : ∃ c' : Nat, c = c' := ⟨c.toNat, by omega⟩
  exact (put_one (by omega) (by omega) h3').1

def RGivenP (w : World) (base N0 rk rO rT : Nat) (s : St) (x y c m n : Int) (e : Ending) (w' : World) : Prop :=
  e = .returned (.int .i64 (givenE s x y c m n)) ∧ RClk w' base N0 rk rO rT (givenS s x y c m n) ∧ Mod [rk, rT] w w'
theorem rgiven_fail {w w' : World} {base N0 rk rO rT : Nat} {s : St} {x y c m n z : Int} (h : RClk w base N0 rk rO rT s) (hz : givenE s x y c m n = z) (h0 : z ≠ 0) (hm : Mod [] w w') : RGivenP w base N0 rk rO rT s x y c m n (.returned (.int .i64 z)) w' := by
  refine ⟨by rw [hz], ?_, hm.nil⟩
  unfold givenS
  rw [if_neg (by rw [hz]; exact h0)]
  exact h.same hm

set_option maxRecDepth 100000 in
set_option maxHeartbeats 4000000 in
theorem rcGiven_calls (w : World) (base N0 rk rO rT : Nat) (s : St) (x y c m n : Int) (h : RClk w base N0 rk rO rT s) (hbs : base ≤ w.heap.size) :
    Calls Tryd.prog 67 #[.pointer (some ⟨rk, 0, none⟩), .agg #[.int .i64 x, .int .i64 y, .int .i64 c, .int .i64 m], .int .i64 n] w (RGivenP w base N0 rk rO rT s x y c m n) := by
  have E1 : givenE s x y c m n = if n < 1 then 1 else if 1048576 ≤ n then 1 else if c ≠ s.id then 1 else if putE (fun _ _ => 0) x y c m ≠ 0 then putE (fun _ _ => 0) x y c m else if n ≤ s.grant then 5 else 0 := rfl
  rw [putE_zero] at E1
  obtain ⟨W1, hW1⟩ : ∃ W1, W1 = w.alloc (.cells #[.int .i64 x, .int .i64 y, .int .i64 c, .int .i64 m] 31) := ⟨_, rfl⟩
  have MW : Mod [] w W1 := by rw [hW1]; exact (Mod.refl [] w).alloc _
  have q0 : W1.cell? ⟨w.heap.size, 0, none⟩ = some (.int .i64 x) := by rw [hW1]; simp
  have q1 : W1.cell? ⟨w.heap.size, 1, none⟩ = some (.int .i64 y) := by rw [hW1]; simp
  have q2 : W1.cell? ⟨w.heap.size, 2, none⟩ = some (.int .i64 c) := by rw [hW1]; simp
  have q3 : W1.cell? ⟨w.heap.size, 3, none⟩ = some (.int .i64 m) := by rw [hW1]; simp
  have s1 : w.heap.size < W1.heap.size := by rw [hW1]; simp
  have hk := h.r.lt
  have hT : rT < w.heap.size := by obtain ⟨v, hb, _⟩ := h.t.ex; exact hb.lt
  have FAIL := Lib.hid (fun (z : Int) (w' : World) (hz : givenE s x y c m n = z) (h0 : z ≠ 0) (hm : Mod [] W1 w') => rgiven_fail h hz h0 (MW.trans hm))
  have HW1 := Lib.hid hW1
  have H1 := Lib.hid (h.same MW)
  have c0 := H1.out.c0
  have HQ0 := Lib.hid q0
  have HQ1 := Lib.hid q1
  have HQ2 := Lib.hid q2
  have HQ3 := Lib.hid q3
  have HMW := Lib.hid MW
  clear h hW1 q0 q1 MW
  by_cases h3 : c ≠ s.id
  · have E := Lib.hid (show givenE s x y c m n = 1 by rw [E1]; simp [h3])
    have d3 : (c != s.id) = true := by simpa using h3
    clear E1 h3
    go_enter Tryd.func67, Tryd.ntmps67
    go_wp2_with fail
    rw [← HW1.out]
    go_quiet (fail)
    go_wp2
    go_ret
    exact FAIL.out _ _ E.out (by decide) ((Mod.refl _ _).drewN _)
  have h3' : c = s.id := by simpa using h3
  clear h3
  subst h3'
  have d3 : (s.id != s.id) = false := by simp
  have CL := Lib.hid (fun w0 : World => (rclient_calls w0 s.id).mono (R' := fun e w' => e = .returned (.bool (inC8 s.id)) ∧ w' = w0) (fun e w' ⟨he, hm⟩ => ⟨he, hm.symm⟩))
  by_cases h4 : inC8 s.id = false
  · have E := Lib.hid (show givenE s x y s.id m n = 1 by rw [E1]; simp [h4])
    rw [h4] at CL
    clear E1 h4
    go_enter Tryd.func67, Tryd.ntmps67
    go_wp2_with fail
    rw [← HW1.out]
    go_quiet ((go_at_call 28; exact Calls.quiet_of_same (CL.out _)))
    go_wp2
    go_ret
    exact FAIL.out _ _ E.out (by decide) ((Mod.refl _ _).drewN _)
  have h4'' : inC8 s.id = true := by simpa using h4
  clear h4
  rw [h4''] at CL
  by_cases h5 : m ≠ 1 ∧ m ≠ 2
  · have E := Lib.hid (show givenE s x y s.id m n = 1 by rw [E1]; simp [h4'', h5])
    have d1 : (m != 1) = true := by simpa using h5.1
    have d2 : (m != 2) = true := by simpa using h5.2
    clear E1 h5
    go_enter Tryd.func67, Tryd.ntmps67
    go_wp2_with fail
    rw [← HW1.out]
    go_quiet ((go_at_call 28; exact Calls.quiet_of_same (CL.out _)))
    go_wp2
    go_ret
    exact FAIL.out _ _ E.out (by decide) ((Mod.refl _ _).drewN _)
  have dm : (m != 1) = false ∨ ((m != 1) = true ∧ (m != 2) = false) := by
    by_cases e1 : m = 1
    · exact .inl (by simpa using e1)
    · exact .inr ⟨by simpa using e1, by simp; omega⟩
  by_cases h6 : n < 1
  · have E := Lib.hid (show givenE s x y s.id m n = 1 by rw [E1, if_pos h6])
    clear E1 h5 h4''
    rcases dm with d1 | ⟨d1, d2⟩
    all_goals
      go_enter Tryd.func67, Tryd.ntmps67
      go_wp2_with fail
      rw [← HW1.out]
      go_quiet ((go_at_call 28; exact Calls.quiet_of_same (CL.out _)))
      go_wp2
      go_ret
      exact FAIL.out _ _ E.out (by decide) ((Mod.refl _ _).drewN _)
  have d6 : decide (n < 1) = false := by simpa using h6
  by_cases h7 : 1048576 ≤ n
  · have E := Lib.hid (show givenE s x y s.id m n = 1 by rw [E1, if_neg h6, if_pos h7])
    clear E1 h5 h6 h4''
    rcases dm with d1 | ⟨d1, d2⟩
    all_goals
      go_enter Tryd.func67, Tryd.ntmps67
      go_wp2_with fail
      rw [← HW1.out]
      go_quiet ((go_at_call 28; exact Calls.quiet_of_same (CL.out _)))
      go_wp2
      go_ret
      exact FAIL.out _ _ E.out (by decide) ((Mod.refl _ _).drewN _)
  have d7 : decide (1048576 ≤ n) = false := by simpa using h7
  rw [if_neg h6, if_neg h7, if_neg (by simp)] at E1
  have BL := Lib.hid (fun w0 : World => blocks_calls w0 x y)
  have q0' := HQ0.out
  have q1' := HQ1.out
  by_cases h8 : blk x y = false
  · have E := Lib.hid (show givenE s x y s.id m n = 71 by rw [E1]; simp [h4'', h5, h8])
    rw [h8] at BL
    clear E1 h5 h6 h7 h4'' h8
    rcases dm with d1 | ⟨d1, d2⟩
    all_goals
      go_enter Tryd.func67, Tryd.ntmps67
      go_wp2_with fail
      rw [← HW1.out]
      go_quiet ((go_at_call 28; exact Calls.quiet_of_same (CL.out _)))
      go_wp2_with (go_at_call 14; refine (BL.out _).mono ?_; rintro e w' ⟨rfl, rfl⟩)
      go_ret
      exact FAIL.out _ _ E.out (by decide) (((Mod.refl _ _).drewN _).alloc _)
  have h8' : blk x y = true := by simpa using h8
  rw [if_neg (by rw [if_neg (by rw [h4'']; simp), if_neg h5, if_neg h8]; simp)] at E1
  rw [h8'] at BL
  have g3 := H1.out.c3
  by_cases h9 : n ≤ s.grant
  · have E := Lib.hid (show givenE s x y s.id m n = 5 by rw [E1, if_pos h9])
    clear E1 h5 h6 h7 h4'' h8 h8'
    rcases dm with d1 | ⟨d1, d2⟩
    all_goals
      go_enter Tryd.func67, Tryd.ntmps67
      go_wp2_with fail
      rw [← HW1.out]
      go_quiet ((go_at_call 28; exact Calls.quiet_of_same (CL.out _)))
      go_wp2_with fail
      refine (BL.out _).mono ?_
      rintro e w3 ⟨rfl, hz⟩
      have M3 : Mod [] W1 w3 := by rw [← hz]; exact ((Mod.refl [] W1).drewN _).alloc _
      have e3 := M3.cell' g3 (by simp)
      have F := Lib.hid (FAIL.out _ w3 E.out (by decide) M3)
      clear hz M3
      go_wp2
      go_ret
      exact F.out
  have d9 : decide (n ≤ s.grant) = false := by simpa using h9
  have E := Lib.hid (show givenE s x y s.id m n = 0 by rw [E1, if_neg h9])
  clear E1 h5 h6 h7 h4'' h8 h8' h9
  rcases dm with d1 | ⟨d1, d2⟩
  all_goals
    go_enter Tryd.func67, Tryd.ntmps67
    go_wp2_with fail
    rw [← HW1.out]
    go_quiet ((go_at_call 28; exact Calls.quiet_of_same (CL.out _)))
    go_wp2_with fail
    refine (BL.out _).mono ?_
    rintro e w3 ⟨rfl, hz⟩
    have M3 : Mod [] W1 w3 := by rw [← hz]; exact ((Mod.refl [] W1).drewN _).alloc _
    have s3 := M3.size
    have k0 := M3.cell' HQ0.out (by simp)
    have k1 := M3.cell' HQ1.out (by simp)
    have k2 := M3.cell' HQ2.out (by simp)
    have k3 := M3.cell' HQ3.out (by simp)
    have H3 := Lib.hid (H1.out.same M3)
    have HM3 := Lib.hid M3
    have e3 := H3.out.c3
    have e2 := H3.out.c2
    have hne : w.heap.size ≠ rT := by omega
    have hkT : rk ≠ rT := H3.out.n2
    have KS := Lib.hid (fun (w' : World) (hm : Mod [rT] w3 w') => (⟨hm.cell' e2 (by simpa using hkT), hm.cell' k0 (by simpa using hne), hm.cell' k1 (by simpa using hne), hm.cell' k2 (by simpa using hne), hm.cell' k3 (by simpa using hne)⟩ :
      w'.cell? ⟨rk, 2, none⟩ = some (.pointer (some ⟨rT, 0, none⟩)) ∧ w'.cell? ⟨w.heap.size, 0, none⟩ = some (.int .i64 x) ∧ w'.cell? ⟨w.heap.size, 1, none⟩ = some (.int .i64 y) ∧ w'.cell? ⟨w.heap.size, 2, none⟩ = some (.int .i64 s.id) ∧ w'.cell? ⟨w.heap.size, 3, none⟩ = some (.int .i64 m)))
    have C := Lib.hid ((rput_calls w3.drew base rT s.t x y s.id m (H3.out.t.same ((Mod.refl [] w3).drew)) (by have := ((Mod.refl [] w3).drew).size; omega)).mono (R' := fun e w' => (∃ z, e = .returned (.int .i64 z)) ∧ RTab w' base rT (putT s.t x y s.id m) ∧ Mod [rT] w3 w') (fun e w' ⟨he, ht, hm⟩ => ⟨⟨_, he⟩, ht, (Mod.refl [rT] w3).drew.trans hm⟩))
    clear hz M3 c0 q0' q1' q2 q3 g3
    go_wp2_with fail
    go_region_held3 (fun w' => w'.cell? ⟨rk, 2, none⟩ = some (.pointer (some ⟨rT, 0, none⟩)) ∧ w'.cell? ⟨w.heap.size, 0, none⟩ = some (.int .i64 x) ∧ w'.cell? ⟨w.heap.size, 1, none⟩ = some (.int .i64 y) ∧ w'.cell? ⟨w.heap.size, 2, none⟩ = some (.int .i64 s.id) ∧ w'.cell? ⟨w.heap.size, 3, none⟩ = some (.int .i64 m))
      ((refine KS.out _ ?_; with_reducible first
        | exact (Mod.refl [rT] w3).drew
        | exact m4))
      (first
        | (go_at_call 52; (with_reducible refine C.out.mono ?_); rintro e w4 ⟨⟨z, rfl⟩, hT4, m4⟩))
    have H4 := H3.out.tabled hT4 m4
    have d3 := H4.c3
    have d4 := H4.c4
    have f3 := H4.r.free 3
    have f4 := H4.r.free 4
    have m5 : Mod [rk] w4 ((w4.setCell ⟨rk, 3, none⟩ (.int .i64 n)).setCell ⟨rk, 4, none⟩ (.int .i64 0)) := ((Mod.refl [rk] w4).setCell (by simp) _).setCell (by simp) _
    have F : RGivenP w base N0 rk rO rT s x y s.id m n (.returned (.int .i64 0)) ((w4.setCell ⟨rk, 3, none⟩ (.int .i64 n)).setCell ⟨rk, 4, none⟩ (.int .i64 0)) := by
      refine ⟨by rw [E.out], ?_, ((HMW.out.trans HM3.out).nil.trans (m4.mono (by simp))).trans (m5.mono (by simp))⟩
      unfold givenS
      rw [if_pos E.out]
      exact H4.cells m5 (((H4.r.set 3 _).set 4 _).congr fun j hj => by
        match j, hj with
        | 0, _ | 1, _ | 2, _ | 3, _ | 4, _ => rfl) ⟨rfl, rfl, rfl, rfl, rfl, rfl, rfl⟩
    have HF := Lib.hid F
    clear F m4 m5 H4 hT4 k0 k1 k2 k3
    go_wp2
    go_ret
    exact HF.out

set_option maxHeartbeats 4000000 in
theorem rcGive_calls (w : World) (base N0 rk rO rT : Nat) (s : St) (x y : Int) (weak : Bool) (h : RClk w base N0 rk rO rT s) (hbs : base ≤ w.heap.size) :
    Calls Tryd.prog 68 #[.pointer (some ⟨rk, 0, none⟩), .agg #[.int .i64 x, .int .i64 y], .bool weak] w fun e w' =>
      ∃ v, e = .returned v ∧ Hs w' v (someL s.t x y (giveP s weak)) ∧ RClk w' base N0 rk rO rT { s with t := setT s.t s.id x y (giveG weak) } ∧ Mod [rT] w w' := by
  obtain ⟨W1, hW1⟩ : ∃ W1, W1 = w.alloc (.cells #[.int .i64 x, .int .i64 y] 23) := ⟨_, rfl⟩
  have MW : Mod [] w W1 := by rw [hW1]; exact (Mod.refl [] w).alloc _
  have q0 : W1.cell? ⟨w.heap.size, 0, none⟩ = some (.int .i64 x) := by rw [hW1]; simp
  have q1 : W1.cell? ⟨w.heap.size, 1, none⟩ = some (.int .i64 y) := by rw [hW1]; simp
  have s1 : w.heap.size < W1.heap.size := by rw [hW1]; simp
  have hT : rT < w.heap.size := by obtain ⟨v, hb, _⟩ := h.t.ex; exact hb.lt
  have hne : w.heap.size ≠ rT := by omega
  have HW1 := Lib.hid hW1
  have H1 := Lib.hid (h.same MW)
  have c1 := H1.out.c0
  have c2 := H1.out.c2
  have hkT : rk ≠ rT := H1.out.n2
  have HMW := Lib.hid MW
  have hk := h.r.lt
  have KS := Lib.hid (fun (w' : World) (hm : Mod [rT] W1 w') => (⟨hm.cell' c1 (by simpa using hkT), hm.cell' c2 (by simpa using hkT), hm.cell' q0 (by simpa using hne), hm.cell' q1 (by simpa using hne)⟩ :
    w'.cell? ⟨rk, 0, none⟩ = some (.int .i64 s.id) ∧ w'.cell? ⟨rk, 2, none⟩ = some (.pointer (some ⟨rT, 0, none⟩)) ∧ w'.cell? ⟨w.heap.size, 0, none⟩ = some (.int .i64 x) ∧ w'.cell? ⟨w.heap.size, 1, none⟩ = some (.int .i64 y)))
  have hbd : base ≤ W1.drew.heap.size := by have := ((Mod.refl [] W1).drew).size; omega
  clear h hW1 MW
  cases weak with
  | false =>
    have C := Lib.hid ((rcut_calls W1.drew base rT s.t s.id x y (H1.out.t.same ((Mod.refl [] W1).drew)) hbd).mono (R' := fun e w' => ∃ v, e = .returned v ∧ Hs w' v (someL s.t x y (giveP s false)) ∧ RTab w' base rT (setT s.t s.id x y (giveG false)) ∧ Mod [rT] W1 w') (fun e w' ⟨v, he, ho, ht, hm⟩ => ⟨v, he, hs_own ho, ht, (Mod.refl [rT] W1).drew.trans hm⟩))
    go_enter Tryd.func68, Tryd.ntmps68
    go_wp2_with fail
    rw [← HW1.out]
    go_region_held3 (fun w' => w'.cell? ⟨rk, 0, none⟩ = some (.int .i64 s.id) ∧ w'.cell? ⟨rk, 2, none⟩ = some (.pointer (some ⟨rT, 0, none⟩)) ∧ w'.cell? ⟨w.heap.size, 0, none⟩ = some (.int .i64 x) ∧ w'.cell? ⟨w.heap.size, 1, none⟩ = some (.int .i64 y))
      ((refine KS.out _ ?_; with_reducible first
        | exact (Mod.refl [rT] W1).drew
        | exact m4))
      (first
        | (go_at_call 53; (with_reducible refine C.out.mono ?_); rintro e w4 ⟨v, rfl, ho, hT4, m4⟩))
    go_wp2
    refine bodyPost_ret (results_tmp rfl _ _ _) rfl ?_
    exact ⟨v, rfl, ho, (H1.out.tabled hT4 m4), HMW.out.nil.trans m4⟩
  | true =>
    have C := Lib.hid ((rweaken_calls W1.drew base rT s.t s.id x y (H1.out.t.same ((Mod.refl [] W1).drew)) hbd).mono (R' := fun e w' => ∃ v, e = .returned v ∧ Hs w' v (someL s.t x y (giveP s true)) ∧ RTab w' base rT (setT s.t s.id x y (giveG true)) ∧ Mod [rT] W1 w') (fun e w' ⟨v, he, ho, ht, hm⟩ => ⟨v, he, hs_own ho, ht, (Mod.refl [rT] W1).drew.trans hm⟩))
    go_enter Tryd.func68, Tryd.ntmps68
    go_wp2_with fail
    rw [← HW1.out]
    go_region_held3 (fun w' => w'.cell? ⟨rk, 0, none⟩ = some (.int .i64 s.id) ∧ w'.cell? ⟨rk, 2, none⟩ = some (.pointer (some ⟨rT, 0, none⟩)) ∧ w'.cell? ⟨w.heap.size, 0, none⟩ = some (.int .i64 x) ∧ w'.cell? ⟨w.heap.size, 1, none⟩ = some (.int .i64 y))
      ((refine KS.out _ ?_; with_reducible first
        | exact (Mod.refl [rT] W1).drew
        | exact m4))
      (first
        | (go_at_call 54; (with_reducible refine C.out.mono ?_); rintro e w4 ⟨v, rfl, ho, hT4, m4⟩))
    go_wp2
    refine bodyPost_ret (results_tmp rfl _ _ _) rfl ?_
    exact ⟨v, rfl, ho, (H1.out.tabled hT4 m4), HMW.out.nil.trans m4⟩
end Go.Proofs.YtkajedgghoboaaaDoor
