/- A step done at both tables (package weirkeeplaw15): they answer alike, and hold the same. No condition beyond what stands in it. -/
import Derived.Test.YtkajedgghoboaaaDoorRefF
import Derived.Test.YtkajedgghoboaaaDoorCount
import Derived.Deep.RegionHeld3
namespace Go.Proofs.YtkajedgghoboaaaDoor
open Go.RowKit
set_option linter.unusedVariables false
set_option linter.unusedSimpArgs false
attribute [local go_sem ↓] Go.wp_at_zero Go.wp_at_succ

/-- Both tables: one state. -/
structure Pair (w : World) (base bT r : Nat) (t : Nat → Nat → Nat) : Prop where
  tb : Tb w bT t
  rt : RTab w base r t
  wh : Whole w
  lo : base ≤ w.heap.size
  n0 : bT ≠ 0
  n1 : r ≠ 0
theorem Pair.ne {w : World} {base bT r : Nat} {t : Nat → Nat → Nat} (h : Pair w base bT r t) : r ≠ bT := h.rt.ne h.tb
theorem Pair.same {w w' : World} {base bT r : Nat} {t : Nat → Nat → Nat} (h : Pair w base bT r t) (m : Mod [] w w') : Pair w' base bT r t :=
  ⟨h.tb.mod m (by simp), h.rt.same m, h.wh.mod m (by simp), Nat.le_trans h.lo m.size, h.n0, h.n1⟩
def DoesP (w : World) (base bT r : Nat) (t : Nat → Nat → Nat) (e : Ending) (w' : World) : Prop := e = .returned (.bool true) ∧ ∃ t', Pair w' base bT r t' ∧ Mod [bT, r] w w' ∧ StepR t t'
/-- Both have changed, one behind the other. -/
theorem Pair.both {w w1 w2 : World} {base bT r : Nat} {t t' : Nat → Nat → Nat} (h : Pair w base bT r t) (h1 : Tb w1 bT t') (m1 : Mod [bT] w w1) (h2 : RTab w2 base r t') (m2 : Mod [r] w1 w2) : Pair w2 base bT r t' ∧ Mod [bT, r] w w2 := by
  have m1' : Mod [bT, r] w w1 := m1.mono (by simp)
  have m2' : Mod [bT, r] w1 w2 := m2.mono (by simp)
  have m := m1'.trans m2'
  exact ⟨⟨h1.mod m2 (by simpa using fun e => h.ne e.symm), h2, h.wh.mod m (by simp; exact ⟨fun e => h.n0 e.symm, fun e => h.n1 e.symm⟩), Nat.le_trans h.lo m.size, h.n0, h.n1⟩, m⟩

theorem does_fin {w w' : World} {base bT r : Nat} {t t' : Nat → Nat → Nat} (hp : Pair w' base bT r t') (m : Mod [bT, r] w w') (hs : StepR t t') : DoesP w base bT r t (.returned (.bool true)) w' := ⟨rfl, t', hp, m, hs⟩
theorem same_true (w : World) (va vb : Value) (A : List HoldT) (hA : Hs w va A) (hB : Hs w vb A) :
    Calls Tryd.prog 23 #[va, vb] w fun e w' => e = .returned (.bool true) ∧ Mod [] w w' :=
  (same_calls w va vb A A hA hB).mono fun e w' ⟨he, m⟩ => ⟨by rw [he]; simp, m⟩
/-- What the document's table's own block is, is no row of holds. -/
theorem hs_other {w : World} {base b0 r : Nat} {t : Nat → Nat → Nat} {size n : Nat} {v : Value} {xs : List Value} (h : RTab w base r t) (ho : w.ownsRow b0 31 size v n xs) : ∀ k, v.ownBlock = some k → k ∉ [r] := by
  intro k hk hs
  have e' : k = r := by simpa using hs
  subst e'
  obtain ⟨v', hb, _⟩ := h.ex
  exact absurd (own_type ho k (by simpa using hk) _ _ hb) (by decide)

set_option maxRecDepth 100000 in
set_option maxHeartbeats 4000000 in
theorem does15_calls (w : World) (base bT r : Nat) (t : Nat → Nat → Nat) (x0 x1 x2 x3 x4 : Int) (h : Pair w base bT r t) :
    Calls Tryd.prog 22 #[.pointer (some ⟨bT, 0, none⟩), .pointer (some ⟨r, 0, none⟩), .agg #[.int .i64 x0, .int .i64 x1, .int .i64 x2, .int .i64 x3, .int .i64 x4]] w (DoesP w base bT r t) := by
  obtain ⟨Z, hZ⟩ : ∃ Z, Z = (w.alloc (.cells #[.int .i64 x0, .int .i64 x1, .int .i64 x2, .int .i64 x3, .int .i64 x4] 45)).alloc (.cells #[.int .i64 x1, .int .i64 x2, .int .i64 x3, .int .i64 x4] 31) := ⟨_, rfl⟩
  obtain ⟨Bh, hBh⟩ : ∃ Bh, Bh = w.heap.size + 1 := ⟨_, rfl⟩
  have MZ : Mod [] w Z := by rw [hZ]; exact ((Mod.refl [] w).alloc _).alloc _
  have q0 : Z.cell? ⟨Bh, 0, none⟩ = some (.int .i64 x1) := by rw [hZ, hBh]; simp
  have q1 : Z.cell? ⟨Bh, 1, none⟩ = some (.int .i64 x2) := by rw [hZ, hBh]; simp
  have q2 : Z.cell? ⟨Bh, 2, none⟩ = some (.int .i64 x3) := by rw [hZ, hBh]; simp
  have q3 : Z.cell? ⟨Bh, 3, none⟩ = some (.int .i64 x4) := by rw [hZ, hBh]; simp
  have l1 := h.tb.lt
  have l2 : r < w.heap.size := by obtain ⟨v, hb, _⟩ := h.rt.ex; exact hb.lt
  have hP : Pair Z.drew base bT r t := (h.same MZ).same (Mod.refl [] Z).drew
  have HPZ := Lib.hid (h.same MZ)
  have HP := Lib.hid hP
  have HMZ := Lib.hid MZ
  have KS := Lib.hid (fun (w' : World) (m : Mod [bT, r] Z w') => (⟨m.cell' q0 (by simp; omega), m.cell' q1 (by simp; omega), m.cell' q2 (by simp; omega), m.cell' q3 (by simp; omega)⟩ :
    w'.cell? ⟨Bh, 0, none⟩ = some (.int .i64 x1) ∧ w'.cell? ⟨Bh, 1, none⟩ = some (.int .i64 x2) ∧ w'.cell? ⟨Bh, 2, none⟩ = some (.int .i64 x3) ∧ w'.cell? ⟨Bh, 3, none⟩ = some (.int .i64 x4)))
  have HZ := Lib.hid hZ
  have HBh := Lib.hid hBh
  have HQ0 := Lib.hid q0
  have HQ1 := Lib.hid q1
  have HQ2 := Lib.hid q2
  have HQ3 := Lib.hid q3
  have FIN := Lib.hid (fun (t' : Nat → Nat → Nat) (w' : World) (hp : Pair w' base bT r t') (m : Mod [bT, r] Z w') (hs : StepR t t') => does_fin hp (MZ.nil.trans m) hs)
  have f0 : DoesP w base bT r t (.returned (.bool true)) Z := does_fin (h.same MZ) MZ.nil (StepR.refl t)
  have FIN0 := Lib.hid f0
  clear hZ hBh MZ hP h f0 q0 q1 q2 q3
  have kinds : (x0 == 0) = true ∨ ((x0 == 0) = false ∧ (x0 == 1) = true) ∨ ((x0 == 0) = false ∧ (x0 == 1) = false ∧ (x0 == 2) = true) ∨ ((x0 == 0) = false ∧ (x0 == 1) = false ∧ (x0 == 2) = false ∧ (x0 == 3) = true) ∨ ((x0 == 0) = false ∧ (x0 == 1) = false ∧ (x0 == 2) = false ∧ (x0 == 3) = false ∧ (x0 == 4) = true) ∨ ((x0 == 0) = false ∧ (x0 == 1) = false ∧ (x0 == 2) = false ∧ (x0 == 3) = false ∧ (x0 == 4) = false) := by
    cases (x0 == 0) <;> cases (x0 == 1) <;> cases (x0 == 2) <;> cases (x0 == 3) <;> cases (x0 == 4) <;> simp
  rcases kinds with k0 | ⟨k0, k1⟩ | ⟨k0, k1, k2⟩ | ⟨k0, k1, k2, k3⟩ | ⟨k0, k1, k2, k3, k4⟩ | ⟨k0, k1, k2, k3, k4⟩
  · have C1 := Lib.hid ((spPut_calls Z.drew bT t x1 x2 x3 x4 HP.out.tb HP.out.wh HP.out.n0).mono (R' := fun e w' => e = .returned (.int .i64 (putE t x1 x2 x3 x4)) ∧ Tb w' bT (putT t x1 x2 x3 x4) ∧ RTab w' base r t ∧ Mod [bT] Z w') (fun e w' ⟨he, hT, hm⟩ => ⟨he, hT, HP.out.rt.modT HP.out.tb hm, (Mod.refl [bT] Z).drew.trans hm⟩))
    have C2 := Lib.hid (fun (w1 : World) (h1 : Tb w1 bT (putT t x1 x2 x3 x4)) (h2 : RTab w1 base r t) (hm : Mod [bT] Z w1) => (rput_calls w1 base r t x1 x2 x3 x4 h2 (Nat.le_trans HPZ.out.lo hm.size)).mono (R' := fun e w' => e = .returned (.int .i64 (putE t x1 x2 x3 x4)) ∧ Pair w' base bT r (putT t x1 x2 x3 x4) ∧ Mod [bT, r] Z w') (fun e w' ⟨he, hT, hm'⟩ => ⟨he, HPZ.out.both h1 hm hT hm'⟩))
    obtain ⟨E, hE⟩ : ∃ E, E = putE t x1 x2 x3 x4 := ⟨_, rfl⟩
    rw [← hE] at C1 C2
    clear hE
    go_enter Tryd.func22, Tryd.ntmps22
    go_wp2_with fail
    rw [← HZ.out, ← HBh.out]
    have s0 := HQ0.out
    have s1 := HQ1.out
    have s2 := HQ2.out
    have s3 := HQ3.out
    go_region_held3 (fun w' => w'.cell? ⟨Bh, 0, none⟩ = some (.int .i64 x1) ∧ w'.cell? ⟨Bh, 1, none⟩ = some (.int .i64 x2) ∧ w'.cell? ⟨Bh, 2, none⟩ = some (.int .i64 x3) ∧ w'.cell? ⟨Bh, 3, none⟩ = some (.int .i64 x4))
      ((refine KS.out _ ?_; with_reducible first
        | exact (Mod.refl [bT, r] Z).drew
        | exact m1.mono (by simp)
        | exact m2))
      (first
        | (go_at_call 17; (with_reducible refine C1.out.mono ?_); rintro e z1 ⟨rfl, h1, h2, m1⟩)
        | (go_at_call 52; (with_reducible refine (C2.out _ h1 h2 m1).mono ?_); rintro e z2 ⟨rfl, h3, m2⟩))
    go_wp2
    refine bodyPost_ret (results_tmp rfl _ _ _) rfl ?_
    exact FIN.out _ _ h3 m2 (step_put HPZ.out.tb.bd _ _ _ _)
  · have C1 := Lib.hid ((spCut_calls Z.drew bT t x3 x1 x2 HP.out.tb).mono (R' := fun e w' => ∃ v, e = .returned v ∧ Hs w' v (someL t x1 x2 (pOf x3)) ∧ Tb w' bT (setT t x3 x1 x2 (fun _ => 0)) ∧ RTab w' base r t ∧ Mod [bT] Z w' ∧ ∀ w'', Mod [r] w' w'' → RTab w'' base r (setT t x3 x1 x2 (fun _ => 0)) → Hs w'' v (someL t x1 x2 (pOf x3))) (fun e w' ⟨v, he, ho, hT, hm⟩ => ⟨v, he, hs_own ho, hT, HP.out.rt.modT HP.out.tb hm, (Mod.refl [bT] Z).drew.trans hm, fun w'' m' hR => hs_own (own_mod ho m' (hs_other (HP.out.rt.modT HP.out.tb hm) ho))⟩))
    have C2 := Lib.hid (fun (w1 : World) (h1 : Tb w1 bT (setT t x3 x1 x2 (fun _ => 0))) (h2 : RTab w1 base r t) (hm : Mod [bT] Z w1) => (rcut_calls w1 base r t x3 x1 x2 h2 (Nat.le_trans HPZ.out.lo hm.size)).mono (R' := fun e w' => ∃ v, e = .returned v ∧ Hs w' v (someL t x1 x2 (pOf x3)) ∧ RTab w' base r (setT t x3 x1 x2 (fun _ => 0)) ∧ Mod [r] w1 w' ∧ Pair w' base bT r (setT t x3 x1 x2 (fun _ => 0)) ∧ Mod [bT, r] Z w') (fun e w' ⟨v, he, ho, hT, hm'⟩ => ⟨v, he, hs_own ho, hT, hm', HPZ.out.both h1 hm hT hm'⟩))
    go_enter Tryd.func22, Tryd.ntmps22
    go_wp2_with fail
    rw [← HZ.out, ← HBh.out]
    have s0 := HQ0.out
    have s1 := HQ1.out
    have s2 := HQ2.out
    have s3 := HQ3.out
    go_region_held3 (fun w' => w'.cell? ⟨Bh, 0, none⟩ = some (.int .i64 x1) ∧ w'.cell? ⟨Bh, 1, none⟩ = some (.int .i64 x2) ∧ w'.cell? ⟨Bh, 2, none⟩ = some (.int .i64 x3) ∧ w'.cell? ⟨Bh, 3, none⟩ = some (.int .i64 x4))
      ((refine KS.out _ ?_; with_reducible first
        | exact (Mod.refl [bT, r] Z).drew
        | exact m1.mono (by simp)
        | exact m2
        | exact m2.trans m4.nil))
      (first
        | (go_at_call 19; (with_reducible refine C1.out.mono ?_); rintro e z1 ⟨v1, rfl, a1, h1, h2, m1, keep1⟩)
        | (go_at_call 53; (with_reducible refine (C2.out _ h1 h2 m1).mono ?_); rintro e z2 ⟨v2, rfl, a2, h3, m3, h4, m2⟩; have a3 := keep1 _ m3 h3)
        | (go_at_call 23; (with_reducible refine (same_true _ _ _ _ a3 a2).mono ?_); rintro e z3 ⟨rfl, m4⟩))
    go_wp2
    refine bodyPost_ret (results_tmp rfl _ _ _) rfl ?_
    exact FIN.out _ _ (h4.same m4) (m2.trans m4.nil) (step_set _ _ _ _ rfl (fun m h => by first | exact absurd (show (0 : Nat) = 2 from h) (by decide) | (have h' : min m 1 = 2 := h; omega)))
  · have C1 := Lib.hid ((spWeaken_calls Z.drew bT t x3 x1 x2 HP.out.tb).mono (R' := fun e w' => ∃ v, e = .returned v ∧ Hs w' v (someL t x1 x2 (pOf2 x3)) ∧ Tb w' bT (setT t x3 x1 x2 (fun m => min m 1)) ∧ RTab w' base r t ∧ Mod [bT] Z w' ∧ ∀ w'', Mod [r] w' w'' → RTab w'' base r (setT t x3 x1 x2 (fun m => min m 1)) → Hs w'' v (someL t x1 x2 (pOf2 x3))) (fun e w' ⟨v, he, ho, hT, hm⟩ => ⟨v, he, hs_own ho, hT, HP.out.rt.modT HP.out.tb hm, (Mod.refl [bT] Z).drew.trans hm, fun w'' m' hR => hs_own (own_mod ho m' (hs_other (HP.out.rt.modT HP.out.tb hm) ho))⟩))
    have C2 := Lib.hid (fun (w1 : World) (h1 : Tb w1 bT (setT t x3 x1 x2 (fun m => min m 1))) (h2 : RTab w1 base r t) (hm : Mod [bT] Z w1) => (rweaken_calls w1 base r t x3 x1 x2 h2 (Nat.le_trans HPZ.out.lo hm.size)).mono (R' := fun e w' => ∃ v, e = .returned v ∧ Hs w' v (someL t x1 x2 (pOf2 x3)) ∧ RTab w' base r (setT t x3 x1 x2 (fun m => min m 1)) ∧ Mod [r] w1 w' ∧ Pair w' base bT r (setT t x3 x1 x2 (fun m => min m 1)) ∧ Mod [bT, r] Z w') (fun e w' ⟨v, he, ho, hT, hm'⟩ => ⟨v, he, hs_own ho, hT, hm', HPZ.out.both h1 hm hT hm'⟩))
    go_enter Tryd.func22, Tryd.ntmps22
    go_wp2_with fail
    rw [← HZ.out, ← HBh.out]
    have s0 := HQ0.out
    have s1 := HQ1.out
    have s2 := HQ2.out
    have s3 := HQ3.out
    go_region_held3 (fun w' => w'.cell? ⟨Bh, 0, none⟩ = some (.int .i64 x1) ∧ w'.cell? ⟨Bh, 1, none⟩ = some (.int .i64 x2) ∧ w'.cell? ⟨Bh, 2, none⟩ = some (.int .i64 x3) ∧ w'.cell? ⟨Bh, 3, none⟩ = some (.int .i64 x4))
      ((refine KS.out _ ?_; with_reducible first
        | exact (Mod.refl [bT, r] Z).drew
        | exact m1.mono (by simp)
        | exact m2
        | exact m2.trans m4.nil))
      (first
        | (go_at_call 25; (with_reducible refine C1.out.mono ?_); rintro e z1 ⟨v1, rfl, a1, h1, h2, m1, keep1⟩)
        | (go_at_call 54; (with_reducible refine (C2.out _ h1 h2 m1).mono ?_); rintro e z2 ⟨v2, rfl, a2, h3, m3, h4, m2⟩; have a3 := keep1 _ m3 h3)
        | (go_at_call 23; (with_reducible refine (same_true _ _ _ _ a3 a2).mono ?_); rintro e z3 ⟨rfl, m4⟩))
    go_wp2
    refine bodyPost_ret (results_tmp rfl _ _ _) rfl ?_
    exact FIN.out _ _ (h4.same m4) (m2.trans m4.nil) (step_set _ _ _ _ rfl (fun m h => by first | exact absurd (show (0 : Nat) = 2 from h) (by decide) | (have h' : min m 1 = 2 := h; omega)))
  · have C1 := Lib.hid ((spDrop_calls Z.drew bT t x3 HP.out.tb HP.out.wh).mono (R' := fun e w' => ∃ v, e = .returned v ∧ Hs w' v (someL t 0 256 (pOf x3)) ∧ Tb w' bT (setT t x3 0 256 (fun _ => 0)) ∧ RTab w' base r t ∧ Mod [bT] Z w' ∧ ∀ w'', Mod [r] w' w'' → RTab w'' base r (setT t x3 0 256 (fun _ => 0)) → Hs w'' v (someL t 0 256 (pOf x3))) (fun e w' ⟨v, he, ho, hT, hm⟩ => ⟨v, he, hs_own ho, hT, HP.out.rt.modT HP.out.tb hm, (Mod.refl [bT] Z).drew.trans hm, fun w'' m' hR => hs_own (own_mod ho m' (hs_other (HP.out.rt.modT HP.out.tb hm) ho))⟩))
    have C2 := Lib.hid (fun (w1 : World) (h1 : Tb w1 bT (setT t x3 0 256 (fun _ => 0))) (h2 : RTab w1 base r t) (hm : Mod [bT] Z w1) => (rdrop_calls w1 base r t x3 h2 (Nat.le_trans HPZ.out.lo hm.size)).mono (R' := fun e w' => ∃ v, e = .returned v ∧ Hs w' v (someL t 0 256 (pOf x3)) ∧ RTab w' base r (setT t x3 0 256 (fun _ => 0)) ∧ Mod [r] w1 w' ∧ Pair w' base bT r (setT t x3 0 256 (fun _ => 0)) ∧ Mod [bT, r] Z w') (fun e w' ⟨v, he, ho, hT, hm'⟩ => ⟨v, he, hs_own ho, hT, hm', HPZ.out.both h1 hm hT hm'⟩))
    go_enter Tryd.func22, Tryd.ntmps22
    go_wp2_with fail
    rw [← HZ.out, ← HBh.out]
    have s0 := HQ0.out
    have s1 := HQ1.out
    have s2 := HQ2.out
    have s3 := HQ3.out
    go_region_held3 (fun w' => w'.cell? ⟨Bh, 0, none⟩ = some (.int .i64 x1) ∧ w'.cell? ⟨Bh, 1, none⟩ = some (.int .i64 x2) ∧ w'.cell? ⟨Bh, 2, none⟩ = some (.int .i64 x3) ∧ w'.cell? ⟨Bh, 3, none⟩ = some (.int .i64 x4))
      ((refine KS.out _ ?_; with_reducible first
        | exact (Mod.refl [bT, r] Z).drew
        | exact m1.mono (by simp)
        | exact m2
        | exact m2.trans m4.nil))
      (first
        | (go_at_call 26; (with_reducible refine C1.out.mono ?_); rintro e z1 ⟨v1, rfl, a1, h1, h2, m1, keep1⟩)
        | (go_at_call 55; (with_reducible refine (C2.out _ h1 h2 m1).mono ?_); rintro e z2 ⟨v2, rfl, a2, h3, m3, h4, m2⟩; have a3 := keep1 _ m3 h3)
        | (go_at_call 23; (with_reducible refine (same_true _ _ _ _ a3 a2).mono ?_); rintro e z3 ⟨rfl, m4⟩))
    go_wp2
    refine bodyPost_ret (results_tmp rfl _ _ _) rfl ?_
    exact FIN.out _ _ (h4.same m4) (m2.trans m4.nil) (step_set _ _ _ _ rfl (fun m h => by first | exact absurd (show (0 : Nat) = 2 from h) (by decide) | (have h' : min m 1 = 2 := h; omega)))
  · have C1 := Lib.hid ((spAgainst_calls Z.drew bT t x1 x2 x3 x4 HP.out.tb).mono (R' := fun e w' => ∃ v, e = .returned v ∧ Hs w' v (someL t x1 x2 (pAg x3 x4)) ∧ Mod [] Z w') (fun e w' ⟨v, he, ho, hm⟩ => ⟨v, he, hs_own ho, (Mod.refl [] Z).drew.trans hm⟩))
    have C2 := Lib.hid (fun (w1 : World) (hm : Mod [] Z w1) => (ragainst_calls w1 base r t x1 x2 x3 x4 (HPZ.out.rt.same hm)).mono (R' := fun e w' => ∃ v, e = .returned v ∧ Hs w' v (someL t x1 x2 (pAg x3 x4)) ∧ Mod [] Z w' ∧ Mod [] w1 w') (fun e w' ⟨v, he, ho, hm'⟩ => ⟨v, he, hs_own ho, hm.trans hm', hm'⟩))
    go_enter Tryd.func22, Tryd.ntmps22
    go_wp2_with fail
    rw [← HZ.out, ← HBh.out]
    have s0 := HQ0.out
    have s1 := HQ1.out
    have s2 := HQ2.out
    have s3 := HQ3.out
    go_region_held3 (fun w' => w'.cell? ⟨Bh, 0, none⟩ = some (.int .i64 x1) ∧ w'.cell? ⟨Bh, 1, none⟩ = some (.int .i64 x2) ∧ w'.cell? ⟨Bh, 2, none⟩ = some (.int .i64 x3) ∧ w'.cell? ⟨Bh, 3, none⟩ = some (.int .i64 x4))
      ((refine KS.out _ ?_; with_reducible first
        | exact (Mod.refl [bT, r] Z).drew
        | exact m1.nil
        | exact m2.nil
        | exact m2.nil.trans m4.nil))
      (first
        | (go_at_call 18; (with_reducible refine C1.out.mono ?_); rintro e z1 ⟨v1, rfl, a1, m1⟩)
        | (go_at_call 56; (with_reducible refine (C2.out _ m1).mono ?_); rintro e z2 ⟨v2, rfl, a2, m2, m3⟩; have a3 := a1.same m3)
        | (go_at_call 23; (with_reducible refine (same_true _ _ _ _ a3 a2).mono ?_); rintro e z3 ⟨rfl, m4⟩))
    go_wp2
    refine bodyPost_ret (results_tmp rfl _ _ _) rfl ?_
    exact FIN.out _ _ (HPZ.out.same (m2.trans m4)) (m2.trans m4).nil (StepR.refl t)
  · go_enter Tryd.func22, Tryd.ntmps22
    go_wp2
    rw [← HZ.out]
    go_ret
    exact FIN0.out
end Go.Proofs.YtkajedgghoboaaaDoor
