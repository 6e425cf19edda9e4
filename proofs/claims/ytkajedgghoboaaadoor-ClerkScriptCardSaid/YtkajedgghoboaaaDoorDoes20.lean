/- A step done at both clerks (package weirkeeplaw20): they answer alike, and come to the same state. No condition beyond what stands in it. -/
import Derived.Test.YtkajedgghoboaaaDoorTwo
import Derived.Deep.RegionHeld3
namespace Go.Proofs.YtkajedgghoboaaaDoor
open Go.RowKit
set_option linter.unusedVariables false
set_option linter.unusedSimpArgs false
attribute [local go_sem ↓] Go.wp_at_zero Go.wp_at_succ

def D20 (w : World) (base k b p q bT rk rO rT : Nat) (e : Ending) (w' : World) : Prop := e = .returned (.bool true) ∧ ∃ N0 bT' rT' s', Mid w' base N0 k b p q bT' rk rO rT' s' s' ∧
  (bT' = bT ∨ w.heap.size ≤ bT') ∧ (rT' = rT ∨ w.heap.size ≤ rT') ∧ Mod (six k b bT rk rO rT) w w'

theorem d20_fin {w Z w' : World} {base N0 k b p q bT rk rO rT : Nat} {s' : St} (hp : Mid w' base N0 k b p q bT rk rO rT s' s') (mz : Mod [] w Z) (m : Mod (six k b bT rk rO rT) Z w') : D20 w base k b p q bT rk rO rT (.returned (.bool true)) w' :=
  ⟨rfl, N0, bT, rT, s', hp, .inl rfl, .inl rfl, mz.nil.trans m⟩
set_option maxRecDepth 100000 in
set_option maxHeartbeats 4000000 in
theorem does20_calls (w : World) (base N0 k b p q bT rk rO rT : Nat) (s : St) (x0 x1 x2 x3 x4 x5 x6 : Int) (x7 : Bool) (h : Mid w base N0 k b p q bT rk rO rT s s) :
    Calls Tryd.prog 41 #[.pointer (some ⟨k, 0, none⟩), .pointer (some ⟨rk, 0, none⟩), .agg #[.int .i64 x0, .int .i64 x1, .int .i64 x2, .int .i64 x3, .int .i64 x4, .int .i64 x5, .int .i64 x6, .bool x7]] w (D20 w base k b p q bT rk rO rT) := by
  obtain ⟨Z, hZ⟩ : ∃ Z, Z = w.alloc (.cells #[.int .i64 x0, .int .i64 x1, .int .i64 x2, .int .i64 x3, .int .i64 x4, .int .i64 x5, .int .i64 x6, .bool x7] 71) := ⟨_, rfl⟩
  obtain ⟨Bh, hBh⟩ : ∃ Bh, Bh = w.heap.size := ⟨_, rfl⟩
  have MZ : Mod [] w Z := by rw [hZ]; exact (Mod.refl [] w).alloc _
  have HQ1 := Lib.hid (show Z.cell? ⟨Bh, 1, none⟩ = some (.int .i64 x1) by rw [hZ, hBh]; simp)
  have HQ2 := Lib.hid (show Z.cell? ⟨Bh, 2, none⟩ = some (.int .i64 x2) by rw [hZ, hBh]; simp)
  have HQ3 := Lib.hid (show Z.cell? ⟨Bh, 3, none⟩ = some (.int .i64 x3) by rw [hZ, hBh]; simp)
  have HQ4 := Lib.hid (show Z.cell? ⟨Bh, 4, none⟩ = some (.int .i64 x4) by rw [hZ, hBh]; simp)
  have HQ5 := Lib.hid (show Z.cell? ⟨Bh, 5, none⟩ = some (.int .i64 x5) by rw [hZ, hBh]; simp)
  have HQ6 := Lib.hid (show Z.cell? ⟨Bh, 6, none⟩ = some (.int .i64 x6) by rw [hZ, hBh]; simp)
  have HQ7 := Lib.hid (show Z.cell? ⟨Bh, 7, none⟩ = some (.bool x7) by rw [hZ, hBh]; simp)
  have lB : w.heap.size ≤ Bh := by omega
  have l1 := h.c.arr.lt
  have l2 := h.c.own.arr.lt
  have l3 := h.c.tb.lt
  have l4 := h.r.r.lt
  have l5 : rO < w.heap.size := by obtain ⟨f, a⟩ := h.r.oArr; exact a.lt
  have l6 : rT < w.heap.size := by obtain ⟨v, hb, _⟩ := h.r.t.ex; exact hb.lt
  have HP := Lib.hid (h.same MZ)
  have HPd := Lib.hid ((h.same MZ).same (Mod.refl [] Z).drew)
  have HK0 := HP.out.c.c0
  have HR1 := HP.out.r.c1
  have nk : k ≠ b := h.c.n1
  have nrO : rk ≠ rO := h.r.n1
  have nkO : k ≠ rO := by obtain ⟨f, a⟩ := h.r.oArr; exact fun e => arr_ne a h.c.arr (by decide) e.symm
  have nbk : b ≠ rk := fun e => arr_ne h.r.r h.c.own.arr (by decide) e.symm
  have FIN := Lib.hid (fun (s' : St) (w' : World) (hp : Mid w' base N0 k b p q bT rk rO rT s' s') (m : Mod (six k b bT rk rO rT) Z w') => d20_fin hp MZ m)
  have FIN0 := Lib.hid (FIN.out s Z HP.out (Mod.refl _ _))
  have b1 : 0 ≤ s.last ∧ s.last ≤ 1099511627776 ∧ 0 ≤ s.got ∧ s.got ≤ s.last := ⟨h.c.own.l0, h.c.own.l1, h.c.own.g0, h.c.own.g1⟩
  have b2 : 0 ≤ s.got ∧ s.got ≤ s.last ∧ -1 ≤ s.till ∧ s.till ≤ 2199023255552 := ⟨h.c.own.g0, h.c.own.g1, h.c.own.t0, h.c.own.t1⟩
  have b3 : 0 ≤ s.grant ∧ s.grant < 1048576 ∧ 0 ≤ s.told ∧ s.told ≤ 1048575 := ⟨h.c.g0, h.c.g1, h.c.o0, h.c.o1⟩
  have HB1 := Lib.hid b1
  have HB2 := Lib.hid b2
  have HB3 := Lib.hid b3
  have HZ := Lib.hid hZ
  have HBh := Lib.hid hBh
  have HH := Lib.hid h
  have HMZ := Lib.hid MZ
  clear h hZ hBh MZ b1 b2 b3
  have kinds : (x0 == 0) = true ∨ ((x0 == 0) = false ∧ (x0 == 1) = true) ∨ ((x0 == 0) = false ∧ (x0 == 1) = false ∧ (x0 == 2) = true) ∨ ((x0 == 0) = false ∧ (x0 == 1) = false ∧ (x0 == 2) = false ∧ (x0 == 3) = true) ∨ ((x0 == 0) = false ∧ (x0 == 1) = false ∧ (x0 == 2) = false ∧ (x0 == 3) = false ∧ (x0 == 4) = true) ∨ ((x0 == 0) = false ∧ (x0 == 1) = false ∧ (x0 == 2) = false ∧ (x0 == 3) = false ∧ (x0 == 4) = false ∧ (x0 == 5) = true) ∨ ((x0 == 0) = false ∧ (x0 == 1) = false ∧ (x0 == 2) = false ∧ (x0 == 3) = false ∧ (x0 == 4) = false ∧ (x0 == 5) = false) := by
    cases (x0 == 0) <;> cases (x0 == 1) <;> cases (x0 == 2) <;> cases (x0 == 3) <;> cases (x0 == 4) <;> cases (x0 == 5) <;> simp
  rcases kinds with k0 | ⟨k0, k1⟩ | ⟨k0, k1, k2⟩ | ⟨k0, k1, k2, k3⟩ | ⟨k0, k1, k2, k3, k4⟩ | ⟨k0, k1, k2, k3, k4, k5⟩ | ⟨k0, k1, k2, k3, k4, k5⟩
  · -- Given
    have C1 := Lib.hid ((mGiven1 Z.drew x3 x4 x5 x6 x1 HPd.out).mono (R' := fun e w' => e = .returned (.int .i64 (givenE s x3 x4 x5 x6 x1)) ∧ Mid w' base N0 k b p q bT rk rO rT (givenS s x3 x4 x5 x6 x1) s ∧ Mod (six k b bT rk rO rT) Z w') (fun e w' ⟨he, hp, hm⟩ => ⟨he, hp, (Mod.refl _ Z).drew.trans hm⟩))
    have C2 := Lib.hid (fun (w1 : World) (h1 : Mid w1 base N0 k b p q bT rk rO rT (givenS s x3 x4 x5 x6 x1) s) (m1 : Mod (six k b bT rk rO rT) Z w1) => (mGiven2 w1 x3 x4 x5 x6 x1 h1).mono (R' := fun e w' => e = .returned (.int .i64 (givenE s x3 x4 x5 x6 x1)) ∧ Mid w' base N0 k b p q bT rk rO rT (givenS s x3 x4 x5 x6 x1) (givenS s x3 x4 x5 x6 x1) ∧ Mod (six k b bT rk rO rT) Z w') (fun e w' ⟨he, hp, hm⟩ => ⟨he, hp, m1.trans hm⟩))
    obtain ⟨E, hE⟩ : ∃ E, E = givenE s x3 x4 x5 x6 x1 := ⟨_, rfl⟩
    rw [← hE] at C1 C2
    clear hE HK0 HR1
    have KS := Lib.hid (fun (w' : World) (m : Mod (six k b bT rk rO rT) Z w') => (⟨m.cell' HQ1.out (by simp <;> omega), m.cell' HQ3.out (by simp <;> omega), m.cell' HQ4.out (by simp <;> omega), m.cell' HQ5.out (by simp <;> omega), m.cell' HQ6.out (by simp <;> omega)⟩ : w'.cell? ⟨Bh, 1, none⟩ = some (.int .i64 x1) ∧ w'.cell? ⟨Bh, 3, none⟩ = some (.int .i64 x3) ∧ w'.cell? ⟨Bh, 4, none⟩ = some (.int .i64 x4) ∧ w'.cell? ⟨Bh, 5, none⟩ = some (.int .i64 x5) ∧ w'.cell? ⟨Bh, 6, none⟩ = some (.int .i64 x6)))
    go_enter Tryd.func41, Tryd.ntmps41
    go_wp2_with fail
    rw [← HZ.out, ← HBh.out]
    have s1 := HQ1.out
    have s3 := HQ3.out
    have s4 := HQ4.out
    have s5 := HQ5.out
    have s6 := HQ6.out
    go_region_held3 (fun w' => w'.cell? ⟨Bh, 1, none⟩ = some (.int .i64 x1) ∧ w'.cell? ⟨Bh, 3, none⟩ = some (.int .i64 x3) ∧ w'.cell? ⟨Bh, 4, none⟩ = some (.int .i64 x4) ∧ w'.cell? ⟨Bh, 5, none⟩ = some (.int .i64 x5) ∧ w'.cell? ⟨Bh, 6, none⟩ = some (.int .i64 x6))
      ((refine KS.out _ ?_; with_reducible first
        | exact (Mod.refl (six k b bT rk rO rT) Z).drew
        | exact m1
        | exact m2))
      (first
        | (go_at_call 35; (with_reducible refine C1.out.mono ?_); rintro e z1 ⟨rfl, h1, m1⟩)
        | (go_at_call 67; (with_reducible refine (C2.out _ h1 m1).mono ?_); rintro e z2 ⟨rfl, h2, m2⟩))
    go_wp2
    refine bodyPost_ret (results_tmp rfl _ _ _) rfl ?_
    exact FIN.out _ _ h2 m2
  · -- Give
    have C1 := Lib.hid ((mGive1 Z.drew x3 x4 x7 HPd.out).mono (R' := fun e w' => ∃ v, e = .returned v ∧ Mid w' base N0 k b p q bT rk rO rT (giveS s x3 x4 x7) s ∧ Mod (six k b bT rk rO rT) Z w' ∧ ∀ w'', Mod [rT] w' w'' → Hs w'' v (someL s.t x3 x4 (giveP s x7))) (fun e w' ⟨v, he, hp, hm, hk⟩ => ⟨v, he, hp, (Mod.refl _ Z).drew.trans hm, hk⟩))
    have C2 := Lib.hid (fun (w1 : World) (h1 : Mid w1 base N0 k b p q bT rk rO rT (giveS s x3 x4 x7) s) (m1 : Mod (six k b bT rk rO rT) Z w1) => (mGive2 w1 x3 x4 x7 h1).mono (R' := fun e w' => ∃ v, e = .returned v ∧ Hs w' v (someL s.t x3 x4 (giveP s x7)) ∧ Mid w' base N0 k b p q bT rk rO rT (giveS s x3 x4 x7) (giveS s x3 x4 x7) ∧ Mod (six k b bT rk rO rT) Z w' ∧ Mod [rT] w1 w') (fun e w' ⟨v, he, ho, hp, hm, hr⟩ => ⟨v, he, ho, hp, m1.trans hm, hr⟩))
    clear HK0 HR1
    have KS := Lib.hid (fun (w' : World) (m : Mod (six k b bT rk rO rT) Z w') => (⟨m.cell' HQ3.out (by simp <;> omega), m.cell' HQ4.out (by simp <;> omega), m.cell' HQ7.out (by simp <;> omega)⟩ : w'.cell? ⟨Bh, 3, none⟩ = some (.int .i64 x3) ∧ w'.cell? ⟨Bh, 4, none⟩ = some (.int .i64 x4) ∧ w'.cell? ⟨Bh, 7, none⟩ = some (.bool x7)))
    go_enter Tryd.func41, Tryd.ntmps41
    go_wp2_with fail
    rw [← HZ.out, ← HBh.out]
    have s3 := HQ3.out
    have s4 := HQ4.out
    have s7 := HQ7.out
    go_region_held3 (fun w' => w'.cell? ⟨Bh, 3, none⟩ = some (.int .i64 x3) ∧ w'.cell? ⟨Bh, 4, none⟩ = some (.int .i64 x4) ∧ w'.cell? ⟨Bh, 7, none⟩ = some (.bool x7))
      ((refine KS.out _ ?_; with_reducible first
        | exact (Mod.refl (six k b bT rk rO rT) Z).drew
        | exact m1
        | exact m2
        | exact m2.trans m4.nil))
      (first
        | (go_at_call 39; (with_reducible refine C1.out.mono ?_); rintro e z1 ⟨v1, rfl, h1, m1, keep1⟩)
        | (go_at_call 68; (with_reducible refine (C2.out _ h1 m1).mono ?_); rintro e z2 ⟨v2, rfl, a2, h2, m2, mr⟩; have a3 := keep1 _ mr)
        | (go_at_call 23; (with_reducible refine (same_true _ _ _ _ a3 a2).mono ?_); rintro e z3 ⟨rfl, m4⟩))
    go_wp2
    refine bodyPost_ret (results_tmp rfl _ _ _) rfl ?_
    exact FIN.out _ _ (h2.same m4) (m2.trans m4.nil)
  · -- Ask
    have C1 := Lib.hid ((mAsk1 Z.drew x1 HPd.out).mono (R' := fun e w' => e = .returned (.tuple #[.int .i64 (askV s.last x1), .int .i64 (askE s.last x1)]) ∧ Mid w' base N0 k b p q bT rk rO rT (askS s x1) s ∧ Mod [b] Z w') (fun e w' ⟨he, hp, hm⟩ => ⟨he, hp, (Mod.refl _ Z).drew.trans hm⟩))
    obtain ⟨V, hV⟩ : ∃ V, V = askV s.last x1 := ⟨_, rfl⟩
    obtain ⟨E, hE⟩ : ∃ E, E = askE s.last x1 := ⟨_, rfl⟩
    rw [← hE, ← hV] at C1
    have HE := Lib.hid hE
    have HV := Lib.hid hV
    clear hE hV
    have KS := Lib.hid (fun (w' : World) (m : Mod [b] Z w') => (⟨m.cell' HK0 (by simp <;> omega), m.cell' HQ1.out (by simp <;> omega)⟩ : w'.cell? ⟨k, 0, none⟩ = some (.pointer (some ⟨b, 0, none⟩)) ∧ w'.cell? ⟨Bh, 1, none⟩ = some (.int .i64 x1)))
    go_enter Tryd.func41, Tryd.ntmps41
    go_wp2_with fail
    rw [← HZ.out, ← HBh.out]
    have s1 := HQ1.out
    go_region_held3 (fun w' => w'.cell? ⟨k, 0, none⟩ = some (.pointer (some ⟨b, 0, none⟩)) ∧ w'.cell? ⟨Bh, 1, none⟩ = some (.int .i64 x1))
      ((refine KS.out _ ?_; with_reducible first
        | exact (Mod.refl [b] Z).drew
        | exact m1))
      (first
        | (go_at_call 32; (with_reducible refine C1.out.mono ?_); rintro e z1 ⟨rfl, h1, m1⟩))
    have m1' := m1
    have g1 := h1.r.c1
    have g2 : z1.cell? ⟨Bh, 1, none⟩ = some (.int .i64 x1) := m1.cell' s1 (by simp <;> omega)
    have C2 := Lib.hid ((mAsk2 z1.drew x1 (h1.same (Mod.refl [] z1).drew) HB1.out).mono (R' := fun e w' => e = .returned (.tuple #[.int .i64 (askV s.last x1), .int .i64 (askE s.last x1)]) ∧ Mid w' base N0 k b p q bT rk rO rT (askS s x1) (askS s x1) ∧ Mod [rO] z1 w') (fun e w' ⟨he, hp, hm⟩ => ⟨he, hp, (Mod.refl _ z1).drew.trans hm⟩))
    rw [← HE.out, ← HV.out] at C2
    have M1 := Lib.hid m1
    have KS := Lib.hid (fun (w' : World) (m : Mod [rO] z1 w') => (⟨m.cell' g1 (by simp <;> omega), m.cell' g2 (by simp <;> omega)⟩ : w'.cell? ⟨rk, 1, none⟩ = some (.pointer (some ⟨rO, 0, none⟩)) ∧ w'.cell? ⟨Bh, 1, none⟩ = some (.int .i64 x1)))
    clear m1' m1 h1 HK0 HR1 s1
    go_wp2_with fail
    go_region_held3 (fun w' => w'.cell? ⟨rk, 1, none⟩ = some (.pointer (some ⟨rO, 0, none⟩)) ∧ w'.cell? ⟨Bh, 1, none⟩ = some (.int .i64 x1))
      ((refine KS.out _ ?_; with_reducible first
        | exact (Mod.refl [rO] z1).drew
        | exact m2))
      (first
        | (go_at_call 69; (with_reducible refine C2.out.mono ?_); rintro e z2 ⟨rfl, h2, m2⟩))
    have F := Lib.hid (FIN.out _ _ h2 ((M1.out.mono (by simp)).trans (m2.mono (by simp))))
    clear h2 m2
    go_wp2
    go_ret
    exact F.out
  · -- Renewed
    have C1 := Lib.hid ((mGot1 Z.drew x1 x2 HPd.out).mono (R' := fun e w' => e = .returned (.int .i64 (gotE s.last s.got x1 x2)) ∧ Mid w' base N0 k b p q bT rk rO rT (gotS s x1 x2) s ∧ Mod [b, rO] Z w') (fun e w' ⟨he, hp, hm⟩ => ⟨he, hp, ((Mod.refl _ Z).drew.trans hm).mono (by simp)⟩))
    have C2 := Lib.hid (fun (w1 : World) (h1 : Mid w1 base N0 k b p q bT rk rO rT (gotS s x1 x2) s) (m1 : Mod [b, rO] Z w1) => (mGot2 w1 x1 x2 h1 HB2.out).mono (R' := fun e w' => e = .returned (.int .i64 (gotE s.last s.got x1 x2)) ∧ Mid w' base N0 k b p q bT rk rO rT (gotS s x1 x2) (gotS s x1 x2) ∧ Mod [b, rO] Z w') (fun e w' ⟨he, hp, hm⟩ => ⟨he, hp, m1.trans (hm.mono (by simp))⟩))
    obtain ⟨E, hE⟩ : ∃ E, E = gotE s.last s.got x1 x2 := ⟨_, rfl⟩
    rw [← hE] at C1 C2
    clear hE
    have KS := Lib.hid (fun (w' : World) (m : Mod [b, rO] Z w') => (⟨m.cell' HQ1.out (by simp <;> omega), m.cell' HQ2.out (by simp <;> omega), m.cell' HR1 (by simp <;> omega)⟩ : w'.cell? ⟨Bh, 1, none⟩ = some (.int .i64 x1) ∧ w'.cell? ⟨Bh, 2, none⟩ = some (.int .i64 x2) ∧ w'.cell? ⟨rk, 1, none⟩ = some (.pointer (some ⟨rO, 0, none⟩))))
    go_enter Tryd.func41, Tryd.ntmps41
    go_wp2_with fail
    rw [← HZ.out, ← HBh.out]
    have s1 := HQ1.out
    have s2 := HQ2.out
    go_region_held3 (fun w' => w'.cell? ⟨Bh, 1, none⟩ = some (.int .i64 x1) ∧ w'.cell? ⟨Bh, 2, none⟩ = some (.int .i64 x2) ∧ w'.cell? ⟨rk, 1, none⟩ = some (.pointer (some ⟨rO, 0, none⟩)))
      ((refine KS.out _ ?_; with_reducible first
        | exact (Mod.refl [b, rO] Z).drew
        | exact m1
        | exact m2))
      (first
        | (go_at_call 33; (with_reducible refine C1.out.mono ?_); rintro e z1 ⟨rfl, h1, m1⟩)
        | (go_at_call 70; (with_reducible refine (C2.out _ h1 m1).mono ?_); rintro e z2 ⟨rfl, h2, m2⟩))
    go_wp2
    refine bodyPost_ret (results_tmp rfl _ _ _) rfl ?_
    exact FIN.out _ _ h2 (m2.mono (by simp))
  · -- Lose
    go_enter Tryd.func41, Tryd.ntmps41
    go_wp2_with fail
    rw [← HZ.out, ← HBh.out]
    clear HK0 HR1
    refine (mLose1 Z HP.out).mono ?_
    rintro e z1 ⟨rfl, bT', e1, e2, h1, h2, m1⟩
    have C2 := Lib.hid (mLose2 Z z1 bT' HP.out h1 h2 m1 e2)
    clear h1 h2 m1
    go_wp2_with fail
    refine C2.out.mono ?_
    rintro e z2 ⟨rfl, rT', e3, h3, m3⟩
    have hz := HMZ.out.size
    have F := Lib.hid (show D20 w base k b p q bT rk rO rT (.returned (.bool true)) z2 from ⟨rfl, _, bT', rT', _, h3, .inr (by omega), .inr (by omega), HMZ.out.nil.trans (m3.mono (by simp))⟩)
    clear h3 m3 hz
    go_wp2
    go_ret
    exact F.out
  · -- Stamp
    have C1 := Lib.hid (mStamp1 Z HP.out)
    have C2 := Lib.hid (fun (w1 : World) (h1 : Mid w1 base N0 k b p q bT rk rO rT (stampS s) s) => mStamp2 w1 h1 HB3.out)
    obtain ⟨V, hV⟩ : ∃ V, V = stampV s := ⟨_, rfl⟩
    obtain ⟨E, hE⟩ : ∃ E, E = stampE s := ⟨_, rfl⟩
    rw [← hE, ← hV] at C1 C2
    clear hE hV HK0 HR1
    go_enter Tryd.func41, Tryd.ntmps41
    go_wp2_with fail
    rw [← HZ.out, ← HBh.out]
    refine C1.out.mono ?_
    rintro e z1 ⟨rfl, h1, m1⟩
    have C3 := Lib.hid (C2.out z1 h1)
    have HM1 := Lib.hid m1
    clear h1 m1
    go_wp2_with fail
    refine C3.out.mono ?_
    rintro e z2 ⟨rfl, h2, m2⟩
    have F := Lib.hid (FIN.out _ _ h2 ((HM1.out.mono (by simp)).trans (m2.mono (by simp))))
    clear h2 m2
    go_wp2
    go_ret
    exact F.out
  · -- nothing
    go_enter Tryd.func41, Tryd.ntmps41
    go_wp2_with fail
    rw [← HZ.out]
    go_ret
    exact FIN0.out
end Go.Proofs.YtkajedgghoboaaaDoor
