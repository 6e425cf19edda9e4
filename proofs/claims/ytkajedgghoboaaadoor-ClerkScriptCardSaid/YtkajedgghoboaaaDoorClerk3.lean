/- What Given and Give of a clerk come to. No condition beyond what stands in each. -/
import Derived.Test.YtkajedgghoboaaaDoorClerk2
namespace Go.Proofs.YtkajedgghoboaaaDoor
open Go.RowKit
set_option linter.unusedVariables false
set_option linter.unusedSimpArgs false
attribute [local go_sem ↓] Go.wp_at_zero Go.wp_at_succ

def givenE (s : St) (a b c m n : Int) : Int := if n < 1 then 1 else if 1048576 ≤ n then 1 else if c ≠ s.id then 1 else if putE (fun _ _ => 0) a b c m ≠ 0 then putE (fun _ _ => 0) a b c m else if n ≤ s.grant then 5 else 0
def givenS (s : St) (a b c m n : Int) : St := if givenE s a b c m n = 0 then { s with t := putT s.t a b c m, grant := n, told := 0 } else s
def GivenP (w : World) (k b p q bT : Nat) (s : St) (x y c m n : Int) (e : Ending) (w' : World) : Prop :=
  e = .returned (.int .i64 (givenE s x y c m n)) ∧ Clk w' k b p q bT (givenS s x y c m n) ∧ Mod [k, bT] w w'
theorem given_fail {w w' : World} {k b p q bT : Nat} {s : St} {x y c m n z : Int} (h : Clk w k b p q bT s) (hz : givenE s x y c m n = z) (h0 : z ≠ 0) (hm : Mod [] w w') : GivenP w k b p q bT s x y c m n (.returned (.int .i64 z)) w' := by
  refine ⟨by rw [hz], ?_, hm.nil⟩
  unfold givenS
  rw [if_neg (by rw [hz]; exact h0)]
  exact h.same hm

set_option maxRecDepth 100000 in
set_option maxHeartbeats 4000000 in
theorem ckGiven_calls (w : World) (k b p q bT : Nat) (s : St) (x y c m n : Int) (h : Clk w k b p q bT s) :
    Calls Tryd.prog 35 #[.pointer (some ⟨k, 0, none⟩), .agg #[.int .i64 x, .int .i64 y, .int .i64 c, .int .i64 m], .int .i64 n] w (GivenP w k b p q bT s x y c m n) := by
  have E1 : givenE s x y c m n = if n < 1 then 1 else if 1048576 ≤ n then 1 else if c ≠ s.id then 1 else if putE (fun _ _ => 0) x y c m ≠ 0 then putE (fun _ _ => 0) x y c m else if n ≤ s.grant then 5 else 0 := rfl
  obtain ⟨W1, hW1⟩ : ∃ W1, W1 = w.alloc (.cells #[.int .i64 x, .int .i64 y, .int .i64 c, .int .i64 m] 31) := ⟨_, rfl⟩
  have MW : Mod [] w W1 := by rw [hW1]; exact (Mod.refl [] w).alloc _
  have q0 : W1.cell? ⟨w.heap.size, 0, none⟩ = some (.int .i64 x) := by rw [hW1]; simp
  have q1 : W1.cell? ⟨w.heap.size, 1, none⟩ = some (.int .i64 y) := by rw [hW1]; simp
  have q2 : W1.cell? ⟨w.heap.size, 2, none⟩ = some (.int .i64 c) := by rw [hW1]; simp
  have q3 : W1.cell? ⟨w.heap.size, 3, none⟩ = some (.int .i64 m) := by rw [hW1]; simp
  have s1 : w.heap.size < W1.heap.size := by rw [hW1]; simp
  have hk := h.arr.lt
  have hT := h.tb.lt
  have FAIL := Lib.hid (fun (z : Int) (w' : World) (hz : givenE s x y c m n = z) (h0 : z ≠ 0) (hm : Mod [] W1 w') => given_fail h hz h0 (MW.trans hm))
  have HW1 := Lib.hid hW1
  have H1 := Lib.hid (h.same MW)
  have c1 := H1.out.c1
  have HQ0 := Lib.hid q0
  have HQ1 := Lib.hid q1
  have HQ2 := Lib.hid q2
  have HQ3 := Lib.hid q3
  have HMW := Lib.hid MW
  clear h hW1 q0 q1 q3 MW
  by_cases h1 : n < 1
  · have E := Lib.hid (E1.trans (if_pos h1))
    clear E1
    go_enter Tryd.func35, Tryd.ntmps35
    go_wp2_with fail
    rw [← HW1.out]
    go_quiet (fail)
    go_wp2
    go_ret
    exact FAIL.out _ _ E.out (by decide) ((Mod.refl _ _).drewN _)
  rw [if_neg h1] at E1
  have d1 : decide (n < 1) = false := by simpa using h1
  by_cases h2 : 1048576 ≤ n
  · have E := Lib.hid (E1.trans (if_pos h2))
    clear E1 h1
    go_enter Tryd.func35, Tryd.ntmps35
    go_wp2_with fail
    rw [← HW1.out]
    go_quiet (fail)
    go_wp2
    go_ret
    exact FAIL.out _ _ E.out (by decide) ((Mod.refl _ _).drewN _)
  rw [if_neg h2] at E1
  have d2 : decide (1048576 ≤ n) = false := by simpa using h2
  by_cases h3 : c ≠ s.id
  · have E := Lib.hid (E1.trans (if_pos h3))
    have d3 : (c != s.id) = true := by simpa using h3
    clear E1 h1 h2 h3
    go_enter Tryd.func35, Tryd.ntmps35
    go_wp2_with fail
    rw [← HW1.out]
    go_quiet (fail)
    go_wp2
    go_ret
    exact FAIL.out _ _ E.out (by decide) ((Mod.refl _ _).drewN _)
  rw [if_neg h3] at E1
  have d3 : (c != s.id) = false := by simpa using h3
  have hn1 : 1 ≤ n := by omega
  have hn2 : n < 1048576 := by omega
  obtain ⟨E0, hE0⟩ : ∃ E0, E0 = putE (fun _ _ => 0) x y c m := ⟨_, rfl⟩
  rw [← hE0] at E1
  have HE0 := Lib.hid hE0
  have HE1 := Lib.hid E1
  have HN := Lib.hid (And.intro hn1 hn2)
  clear h1 h2 h3 hE0 E1 hn1 hn2
  go_enter Tryd.func35, Tryd.ntmps35
  go_wp2_with fail
  rw [← HW1.out]
  go_quiet (fail)
  go_wp2_with fail
  obtain ⟨W2, hW2⟩ : ∃ W2, W2 = W1.drewN nq := ⟨_, rfl⟩
  rw [← hW2]
  have M2 : Mod [] W1 W2 := by rw [hW2]; exact (Mod.refl [] W1).drewN _
  clear hW2
  refine (spNew_calls W2).mono ?_
  rintro e w2 ⟨rfl, hz⟩
  have hTn := tb_new W2
  rw [hz] at hTn
  have m2 : Mod [] W2 w2 := by rw [← hz]; exact (Mod.refl [] W2).alloc _
  have MM := M2.trans m2
  have k0 := MM.cell' HQ0.out (by simp)
  have k1 := MM.cell' HQ1.out (by simp)
  have k2 := MM.cell' HQ2.out (by simp)
  have k3 := MM.cell' HQ3.out (by simp)
  have sW2 := M2.size
  have HTn := Lib.hid hTn
  have H2 := Lib.hid (H1.out.same MM)
  have HMM := Lib.hid MM
  clear hz hTn M2 m2 MM q2 c1
  go_wp2_with fail
  refine (spPut_calls w2 W2.heap.size _ x y c m HTn.out H2.out.wh (by omega)).mono ?_
  rintro e w3 ⟨rfl, -, m3⟩
  rw [← HE0.out]
  have M3 : Mod [] W1 w3 := HMM.out.fresh m3 (fun z hz => .inr (by simp at hz; omega))
  have s3 := m3.size
  have hm0 : ∀ r, r < W1.heap.size → r ∉ [W2.heap.size] := fun r hr => by simp; omega
  have H3 := Lib.hid (H1.out.same M3)
  have HM3 := Lib.hid M3
  replace k0 := HM3.out.cell' HQ0.out (by simp)
  replace k1 := HM3.out.cell' HQ1.out (by simp)
  replace k2 := HM3.out.cell' HQ2.out (by simp)
  replace k3 := HM3.out.cell' HQ3.out (by simp)
  have g3 := H3.out.c3
  clear m3 M3 hm0
  by_cases h4 : E0 = 0
  rotate_left
  · have E := Lib.hid (HE1.out.trans (if_pos h4))
    have d4 : (E0 != 0) = true := by simpa using h4
    have H4 := Lib.hid h4
    clear h4
    go_wp2
    go_ret
    exact FAIL.out _ _ E.out H4.out HM3.out
  have hE1 := HE1.out
  rw [if_neg (by simpa using h4)] at hE1
  subst h4
  by_cases h5 : n ≤ s.grant
  · have E := Lib.hid (hE1.trans (if_pos h5))
    clear hE1
    go_wp2
    go_ret
    exact FAIL.out _ _ E.out (by decide) HM3.out
  have E := Lib.hid (hE1.trans (if_neg h5))
  have d5 : decide (n ≤ s.grant) = false := by simpa using h5
  have hne : w.heap.size ≠ bT := by omega
  have hkT : k ≠ bT := H3.out.n4
  have c2 := H3.out.c2
  have KS := Lib.hid (fun (w' : World) (hm : Mod [bT] w3 w') => (⟨hm.cell' c2 (by simpa using hkT), hm.cell' k0 (by simpa using hne), hm.cell' k1 (by simpa using hne), hm.cell' k2 (by simpa using hne), hm.cell' k3 (by simpa using hne)⟩ :
    w'.cell? ⟨k, 2, none⟩ = some (.pointer (some ⟨bT, 0, none⟩)) ∧ w'.cell? ⟨w.heap.size, 0, none⟩ = some (.int .i64 x) ∧ w'.cell? ⟨w.heap.size, 1, none⟩ = some (.int .i64 y) ∧ w'.cell? ⟨w.heap.size, 2, none⟩ = some (.int .i64 c) ∧ w'.cell? ⟨w.heap.size, 3, none⟩ = some (.int .i64 m)))
  have C := Lib.hid ((spPut_calls w3.drew bT s.t x y c m (H3.out.tb.mod ((Mod.refl [] w3).drew) (by simp)) (H3.out.wh.mod ((Mod.refl [] w3).drew) (by simp)) H3.out.t0).mono (R' := fun e w' => (∃ z, e = .returned (.int .i64 z)) ∧ Tb w' bT (putT s.t x y c m) ∧ Mod [bT] w3 w') (fun e w' ⟨he, ht, hm⟩ => ⟨⟨_, he⟩, ht, (Mod.refl [bT] w3).drew.trans hm⟩))
  clear h5 hE1
  go_wp2_with fail
  go_region_held3 (fun w' => w'.cell? ⟨k, 2, none⟩ = some (.pointer (some ⟨bT, 0, none⟩)) ∧ w'.cell? ⟨w.heap.size, 0, none⟩ = some (.int .i64 x) ∧ w'.cell? ⟨w.heap.size, 1, none⟩ = some (.int .i64 y) ∧ w'.cell? ⟨w.heap.size, 2, none⟩ = some (.int .i64 c) ∧ w'.cell? ⟨w.heap.size, 3, none⟩ = some (.int .i64 m))
    ((refine KS.out _ ?_; with_reducible first
      | exact (Mod.refl [bT] w3).drew
      | exact m4))
    (first
      | (go_at_call 17; (with_reducible refine C.out.mono ?_); rintro e w4 ⟨⟨z, rfl⟩, hT4, m4⟩))
  have H4 := H3.out.tabled hT4 m4
  have d3 := H4.c3
  have d4 := H4.c4
  have f3 := H4.arr.free 3
  have f4 := H4.arr.free 4
  have hN := HN.out
  have m5 : Mod [k] w4 ((w4.setCell ⟨k, 3, none⟩ (.int .i64 n)).setCell ⟨k, 4, none⟩ (.int .i64 0)) := ((Mod.refl [k] w4).setCell (by simp) _).setCell (by simp) _
  have F : GivenP w k b p q bT s x y c m n (.returned (.int .i64 0)) ((w4.setCell ⟨k, 3, none⟩ (.int .i64 n)).setCell ⟨k, 4, none⟩ (.int .i64 0)) := by
    refine ⟨by rw [E.out], ?_, ((HMW.out.trans HM3.out).nil.trans (m4.mono (by simp))).trans (m5.mono (by simp))⟩
    unfold givenS
    rw [if_pos E.out]
    exact ⟨((H4.arr.set 3 _).set 4 _).congr fun j hj => by
      match j, hj with
      | 0, _ | 1, _ | 2, _ | 3, _ | 4, _ => rfl, H4.own.mod m5 (by simpa using fun e => H4.n1 e.symm) (by simpa using fun e => H4.n2 e.symm) (by simpa using fun e => H4.n3 e.symm), H4.tb.mod m5 (by simpa using fun e => H4.n4 e.symm), H4.wh.mod m5 (by simpa using fun e => H4.k0 e.symm), H4.k0, H4.b0, H4.t0, by show 0 ≤ n; omega, by show n < 1048576; omega, by show (0 : Int) ≤ 0; omega, by show (0 : Int) ≤ 1048575; omega⟩
  have HF := Lib.hid F
  clear F m4 m5 H4 hT4 hN k0 k1 k2 k3
  go_wp2
  go_ret
  exact HF.out

def giveP (s : St) (weak : Bool) : Nat → Nat → Bool := if weak = true then pOf2 s.id else pOf s.id
def giveG (weak : Bool) (m : Nat) : Nat := if weak = true then min m 1 else 0
set_option maxHeartbeats 4000000 in
theorem ckGive_calls (w : World) (k b p q bT : Nat) (s : St) (x y : Int) (weak : Bool) (h : Clk w k b p q bT s) :
    Calls Tryd.prog 39 #[.pointer (some ⟨k, 0, none⟩), .agg #[.int .i64 x, .int .i64 y], .bool weak] w fun e w' =>
      ∃ v, e = .returned v ∧ w'.ownsRow w.heap.size 31 4 v (someL s.t x y (giveP s weak)).length (hcells (someL s.t x y (giveP s weak))) ∧ Clk w' k b p q bT { s with t := setT s.t s.id x y (giveG weak) } ∧ Mod [bT] w w' := by
  obtain ⟨W1, hW1⟩ : ∃ W1, W1 = w.alloc (.cells #[.int .i64 x, .int .i64 y] 23) := ⟨_, rfl⟩
  have MW : Mod [] w W1 := by rw [hW1]; exact (Mod.refl [] w).alloc _
  have q0 : W1.cell? ⟨w.heap.size, 0, none⟩ = some (.int .i64 x) := by rw [hW1]; simp
  have q1 : W1.cell? ⟨w.heap.size, 1, none⟩ = some (.int .i64 y) := by rw [hW1]; simp
  have s1 : w.heap.size < W1.heap.size := by rw [hW1]; simp
  have hT := h.tb.lt
  have hne : w.heap.size ≠ bT := by omega
  have HW1 := Lib.hid hW1
  have H1 := Lib.hid (h.same MW)
  have c1 := H1.out.c1
  have c2 := H1.out.c2
  have hkT : k ≠ bT := H1.out.n4
  have HMW := Lib.hid MW
  have e2 := h.c2
  have hk := h.arr.lt
  have KS := Lib.hid (fun (w' : World) (hm : Mod [bT] W1 w') => (⟨hm.cell' c1 (by simpa using hkT), hm.cell' q0 (by simpa using hne), hm.cell' q1 (by simpa using hne)⟩ :
    w'.cell? ⟨k, 1, none⟩ = some (.int .i64 s.id) ∧ w'.cell? ⟨w.heap.size, 0, none⟩ = some (.int .i64 x) ∧ w'.cell? ⟨w.heap.size, 1, none⟩ = some (.int .i64 y)))
  clear h hW1 MW
  cases weak with
  | false =>
    have C := Lib.hid ((spCut_calls W1.drew bT s.t s.id x y (H1.out.tb.mod ((Mod.refl [] W1).drew) (by simp))).mono (R' := fun e w' => ∃ v, e = .returned v ∧ w'.ownsRow W1.heap.size 31 4 v (someL s.t x y (giveP s false)).length (hcells (someL s.t x y (giveP s false))) ∧ Tb w' bT (setT s.t s.id x y (giveG false)) ∧ Mod [bT] W1 w') (fun e w' ⟨v, he, ho, ht, hm⟩ => ⟨v, he, ho, ht, (Mod.refl [bT] W1).drew.trans hm⟩))
    go_enter Tryd.func39, Tryd.ntmps39
    go_wp2_with fail
    rw [← HW1.out]
    go_region_held3 (fun w' => w'.cell? ⟨k, 1, none⟩ = some (.int .i64 s.id) ∧ w'.cell? ⟨w.heap.size, 0, none⟩ = some (.int .i64 x) ∧ w'.cell? ⟨w.heap.size, 1, none⟩ = some (.int .i64 y))
      ((refine KS.out _ ?_; with_reducible first
        | exact (Mod.refl [bT] W1).drew
        | exact m4))
      (first
        | (go_at_call 19; (with_reducible refine C.out.mono ?_); rintro e w4 ⟨v, rfl, ho, hT4, m4⟩))
    go_wp2
    refine bodyPost_ret (results_tmp rfl _ _ _) rfl ?_
    exact ⟨v, rfl, own_base ho (by omega), (H1.out.tabled hT4 m4), HMW.out.nil.trans m4⟩
  | true =>
    have C := Lib.hid ((spWeaken_calls W1.drew bT s.t s.id x y (H1.out.tb.mod ((Mod.refl [] W1).drew) (by simp))).mono (R' := fun e w' => ∃ v, e = .returned v ∧ w'.ownsRow W1.heap.size 31 4 v (someL s.t x y (giveP s true)).length (hcells (someL s.t x y (giveP s true))) ∧ Tb w' bT (setT s.t s.id x y (giveG true)) ∧ Mod [bT] W1 w') (fun e w' ⟨v, he, ho, ht, hm⟩ => ⟨v, he, ho, ht, (Mod.refl [bT] W1).drew.trans hm⟩))
    go_enter Tryd.func39, Tryd.ntmps39
    go_wp2_with fail
    rw [← HW1.out]
    go_region_held3 (fun w' => w'.cell? ⟨k, 1, none⟩ = some (.int .i64 s.id) ∧ w'.cell? ⟨w.heap.size, 0, none⟩ = some (.int .i64 x) ∧ w'.cell? ⟨w.heap.size, 1, none⟩ = some (.int .i64 y))
      ((refine KS.out _ ?_; with_reducible first
        | exact (Mod.refl [bT] W1).drew
        | exact m4))
      (first
        | (go_at_call 25; (with_reducible refine C.out.mono ?_); rintro e w4 ⟨v, rfl, ho, hT4, m4⟩))
    go_wp2
    refine bodyPost_ret (results_tmp rfl _ _ _) rfl ?_
    exact ⟨v, rfl, own_base ho (by omega), (H1.out.tabled hT4 m4), HMW.out.nil.trans m4⟩
end Go.Proofs.YtkajedgghoboaaaDoor
