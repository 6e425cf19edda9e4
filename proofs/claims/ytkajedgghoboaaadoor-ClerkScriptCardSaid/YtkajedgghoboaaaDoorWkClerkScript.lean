/- The walk of the law ClerkScript: whatever a clerk is given, gives, asks, is told and loses, it answers, and holds, what the document says. The premise: the variable 'whole' holds what its initialiser lays. -/
import Derived.Test.YtkajedgghoboaaaDoorProg
import Derived.Test.YtkajedgghoboaaaDoorRow
import Derived.Test.YtkajedgghoboaaaDoorDoes20
namespace Go.Proofs.YtkajedgghoboaaaDoor
open Go.RowKit
set_option linter.unusedVariables false
set_option linter.unusedSimpArgs false
attribute [local go_sem ↓] Go.wp_at_zero Go.wp_at_succ

structure TwI (W wr : World) (base k b p q rk rO : Nat) : Prop where
  ex : ∃ N0 bT rT s, Mid wr base N0 k b p q bT rk rO rT s s ∧ W.heap.size ≤ bT ∧ W.heap.size ≤ rT
  md : Mod [] W wr
  s1 : W.heap.size ≤ k
  s2 : W.heap.size ≤ b
  s3 : W.heap.size ≤ rk
  s4 : W.heap.size ≤ rO
theorem TwI.next {W wr w' : World} {base k b p q bT rk rO rT N0' bT' rT' : Nat} {s' : St} (h : TwI W wr base k b p q rk rO) (l1 : W.heap.size ≤ bT) (l2 : W.heap.size ≤ rT) (hp : Mid w' base N0' k b p q bT' rk rO rT' s' s') (h1 : bT' = bT ∨ wr.heap.size ≤ bT') (h2 : rT' = rT ∨ wr.heap.size ≤ rT') (m : Mod (six k b bT rk rO rT) wr w') : TwI W w' base k b p q rk rO :=
  have hz := h.md.size
  ⟨⟨_, _, _, _, hp, by omega, by omega⟩, h.md.fresh m (fun x hx => .inr (by have := h.s1; have := h.s2; have := h.s3; have := h.s4; simp at hx; omega)), h.s1, h.s2, h.s3, h.s4⟩
theorem TwI.same {W wr w' : World} {base k b p q rk rO : Nat} (h : TwI W wr base k b p q rk rO) (m : Mod [] wr w') : TwI W w' base k b p q rk rO := by
  obtain ⟨N0, bT, rT, s, hp, l1, l2⟩ := h.ex
  exact ⟨⟨N0, bT, rT, s, hp.same m, l1, l2⟩, h.md.trans m, h.s1, h.s2, h.s3, h.s4⟩
theorem twI_new {W z1 z2 z3 : World} {id num slack : Int} {k b p q bT rk rO rT : Nat} (m1 : Mod [] W z1) (hc : Clk z2 k b p q bT (stNew id num slack)) (m2 : Mod [] z1 z2) (l1 : z1.heap.size ≤ k) (l2 : z1.heap.size ≤ b) (l3 : z1.heap.size ≤ bT)
    (hr : RClk z3 z2.heap.size z3.heap.size rk rO rT (stNew id num slack)) (m3 : Mod [] z2 z3) (k1 : z2.heap.size ≤ rk) (k2 : z2.heap.size ≤ rO) (k3 : z2.heap.size ≤ rT) : TwI W z3 z2.heap.size k b p q rk rO := by
  have e1 := m1.size
  have e2 := m2.size
  have e3 := m3.size
  have c := hc.same m3
  have g1 := hc.arr.lt
  have g2 := hc.own.arr.lt
  have g3 := hc.tb.lt
  exact ⟨⟨_, bT, rT, _, ⟨c, hr, by omega, by omega, by omega, e3, by omega, by omega, by omega⟩, by omega, by omega⟩, (m1.trans m2).trans m3, by omega, by omega, by omega, by omega⟩

set_option maxRecDepth 100000 in
set_option maxHeartbeats 4000000 in
theorem clerkScript_walk (W : World) (t0 : Whole W) (a0 : Int) (w0 : (Lit.int .i64 a0).wf = true)
    (a1 : Int) (w1 : (Lit.int .i64 a1).wf = true)
    (a2 : Int) (w2 : (Lit.int .i64 a2).wf = true)
    (v3 : Value) (c3 : CellOk W (.sl [.int .i64, .int .i64, .int .i64, .int .i64, .int .i64, .int .i64, .int .i64, .bool]) v3)
    (a4 : Int) (w4 : (Lit.int .i64 a4).wf = true)
    (a5 : Int) (w5 : (Lit.int .i64 a5).wf = true)
    (a6 : Int) (w6 : (Lit.int .i64 a6).wf = true) :
    Calls Tryd.prog 13 #[.int .i64 a0, .int .i64 a1, .int .i64 a2, v3, .int .i64 a4, .int .i64 a5, .int .i64 a6] W fun e w' => e = .returned (.bool true) ∧ Below W.heap.size W w' := by
  obtain ⟨n, f, hA, hf⟩ := c3.slA (by simp)
  obtain ⟨A, cap0, rfl, hn, hcap, hcell⟩ := hA.ex
  have hcap' : cap0 ≤ 9223372036854775807 := by unfold maxLen at hcap; omega
  have hnow : a4 ≤ 9223372036854775807 := (bd_i64 w4).2
  have HNOW := Lib.hid hnow
  clear hcap c3 hA w0 w1 w2 w4 w5 w6 hnow
  have HT := Lib.hid t0
  clear t0
  by_cases h40 : 30 < n
  · have hi : (30 : Int) < (n : Int) := by omega
    go_enter Tryd.func13, Tryd.ntmps13
    go_wp2_with (go_at_call 29; refine (shown20_calls _ HT.out).mono ?_; rintro e w' ⟨rfl, m⟩)
    go_ret
    exact ⟨rfl, m.below (Nat.le_refl _) (by simp)⟩
  have h5 : decide (30 < n) = false := by simpa using h40
  go_enter Tryd.func13, Tryd.ntmps13
  go_wp2_with fail
  refine (shown20_calls _ HT.out).mono ?_
  rintro e z1 ⟨rfl, m1⟩
  have HM1 := Lib.hid m1
  have HT1 := Lib.hid (HT.out.mod m1 (by simp))
  clear m1
  go_wp2_with fail
  refine (ckNew_calls z1 a0 a1 a2 HT1.out).mono ?_
  rintro e z2 ⟨kk, b, p, q, bT0, rfl, hc, m2, l1, l2, -, -, l3⟩
  have HC := Lib.hid hc
  have HM2 := Lib.hid m2
  clear hc m2
  go_wp2_with fail
  refine (rcNew_calls z2 a0 a1 a2).mono ?_
  rintro e z3 ⟨rk, rO, rT0, rfl, hr, m3, l4, l5, l6⟩
  have HI := Lib.hid (twI_new HM1.out HC.out HM2.out l1 l2 l3 hr m3 l4 l5 l6)
  obtain ⟨base, hbase⟩ : ∃ base, base = z2.heap.size := ⟨_, rfl⟩
  rw [← hbase] at HI
  clear hr m3 l1 l2 l3 l4 l5 l6 hbase HC HM1 HM2 HT1
  go_wp2
  go_loopw [17] (fun i wr => ∃ j : Nat, j ≤ n ∧ i = .int .i64 j ∧ TwI W wr base kk b p q rk rO) (fun i _ => n - (intOf i).toNat)
  case atStart => exact ⟨0, Nat.zero_le _, rfl, HI.out⟩
  case round =>
    obtain ⟨k, hkn, rfl, hI⟩ := hrel
    clear HI
    by_cases hlt : k < n
    · obtain ⟨bl, off, rfl, hx⟩ := hcell (by omega)
      obtain ⟨x0, e0, q0⟩ := (hf k 0 _ hlt rfl).int_inv
      obtain ⟨x1, e1, q1⟩ := (hf k 1 _ hlt rfl).int_inv
      obtain ⟨x2, e2, q2⟩ := (hf k 2 _ hlt rfl).int_inv
      obtain ⟨x3, e3, q3⟩ := (hf k 3 _ hlt rfl).int_inv
      obtain ⟨x4, e4, q4⟩ := (hf k 4 _ hlt rfl).int_inv
      obtain ⟨x5, e5, q5⟩ := (hf k 5 _ hlt rfl).int_inv
      obtain ⟨x6, e6, q6⟩ := (hf k 6 _ hlt rfl).int_inv
      obtain ⟨x7, e7⟩ := (hf k 7 _ hlt rfl).bool_inv
      have y0 := hx k 0 hlt (by simp)
      have y1 := hx k 1 hlt (by simp)
      have y2 := hx k 2 hlt (by simp)
      have y3 := hx k 3 hlt (by simp)
      have y4 := hx k 4 hlt (by simp)
      have y5 := hx k 5 hlt (by simp)
      have y6 := hx k 6 hlt (by simp)
      have y7 := hx k 7 hlt (by simp)
      rw [e0] at y0
      rw [e1] at y1
      rw [e2] at y2
      rw [e3] at y3
      rw [e4] at y4
      rw [e5] at y5
      rw [e6] at y6
      rw [e7] at y7
      simp only [List.length_cons, List.length_nil, Nat.zero_add, Nat.reduceAdd, Nat.add_zero] at y0 y1 y2 y3 y4 y5 y6 y7
      replace y0 := hI.md.cell' y0 (by simp)
      replace y1 := hI.md.cell' y1 (by simp)
      replace y2 := hI.md.cell' y2 (by simp)
      replace y3 := hI.md.cell' y3 (by simp)
      replace y4 := hI.md.cell' y4 (by simp)
      replace y5 := hI.md.cell' y5 (by simp)
      replace y6 := hI.md.cell' y6 (by simp)
      replace y7 := hI.md.cell' y7 (by simp)
      clear hx e0 e1 e2 e3 e4 e5 e6 e7 hf hcell q0 q1 q2 q3 q4 q5 q6
      have i0 : (0 : Int) ≤ (k : Int) := by omega
      have i1 : (k : Int) < (n : Int) := by omega
      obtain ⟨N0, bT, rT, s, hp, l1, l2⟩ := hI.ex
      have C1 := Lib.hid ((does20_calls wr.drew base N0 kk b p q bT rk rO rT s x0 x1 x2 x3 x4 x5 x6 x7 (hp.same (Mod.refl [] wr).drew)).mono (R' := fun e w' => e = .returned (.bool true) ∧ ∃ N0' bT' rT' s' p0 cap0, Mid w' base N0' kk b p q bT' rk rO rT' s' s' ∧ TwI W w' base kk b p q rk rO ∧ w'.cell? ⟨rk, 2, none⟩ = some (.pointer (some ⟨rT', 0, none⟩)) ∧ w'.cell? ⟨rT', 0, none⟩ = some (.slice p0 (listL s'.t).length cap0) ∧ Hs w' (.slice p0 (listL s'.t).length cap0) (listL s'.t)) (by
        rintro e w' ⟨he, N0', bT', rT', s', hp', h1, h2, hm⟩
        obtain ⟨v, hb, ho⟩ := hp'.r.t.ex
        have hs := hs_own ho
        obtain ⟨p0, cap0, rfl, -⟩ := own_holds' ho
        have hd : wr.drew.heap.size = wr.heap.size := rfl
        rw [hd] at h1 h2
        exact ⟨he, N0', bT', rT', s', p0, cap0, hp', hI.next l1 l2 hp' h1 h2 ((Mod.refl _ wr).drew.trans hm), hp'.r.c2, hb.cell, hs⟩))
      have C2 := Lib.hid (fun (w1 : World) (N0 bT rT : Nat) (s : St) (h : Mid w1 base N0 kk b p q bT rk rO rT s s) => (ckHolds_calls w1 kk b p q bT s h.c).mono (R' := fun e w' => ∃ v, e = .returned v ∧ Hs w' v (listL s.t) ∧ Mod [] w1 w') (by
        rintro e w' ⟨v, he, ho, hm⟩
        exact ⟨v, he, hs_own ho, hm⟩))
      clear hI hp
      go_wp2_with fail
      go_region_with
        (first
          | (go_at_call 41; (with_reducible refine C1.out.mono ?_); rintro e z1 ⟨rfl, N0', bT', rT', s', p0, cap0, hp, hi, d0, d1, g1⟩; have Hp := Lib.hid hp; have Hi := Lib.hid hi; clear hp hi)
          | (go_at_call 37; (with_reducible refine (C2.out _ _ _ _ _ Hp.out).mono ?_); rintro e z2 ⟨v1, rfl, a1, m2⟩; have d2 := m2.cell' d0 (by simp); have d3 := m2.cell' d1 (by simp); have g2 := g1.same m2)
          | (go_at_call 23; (with_reducible refine (same_true _ _ _ _ a1 g2).mono ?_); rintro e z3 ⟨rfl, m3⟩))
      all_goals
        have H3 := Lib.hid (Hp.out.same (m2.trans m3))
        have I3 := Lib.hid (Hi.out.same (m2.trans m3))
        have K1 := Lib.hid (fun (w0 : World) (m0 : Mod [] z3 w0) => ckMay_calls w0 kk b p q bT' s' a4 a5 a6 (H3.out.same m0).c)
        have K2 := Lib.hid (fun (w0 : World) (m0 : Mod [] z3 w0) => rcMay_calls w0 base N0' rk rO rT' s' a4 a5 a6 (H3.out.same m0).r)
        have K3 := Lib.hid (fun (w0 : World) (m0 : Mod [] z3 w0) => ckLeft_calls w0 kk b p q bT' s' a4 (H3.out.same m0).c HNOW.out)
        have K4 := Lib.hid (fun (w0 : World) (m0 : Mod [] z3 w0) => rcLeft_calls w0 base N0' rk rO rT' s' a4 (H3.out.same m0).r HNOW.out (H3.out.c.own.t0) (H3.out.c.own.t1))
        obtain ⟨E, hE⟩ : ∃ E, E = mayE s' a4 a5 a6 := ⟨_, rfl⟩
        obtain ⟨V, hV⟩ : ∃ V, V = leftV s'.till a4 := ⟨_, rfl⟩
        rw [← hE] at K1 K2
        rw [← hV] at K3 K4
        clear m2 m3 d0 d1 d2 d3 g1 g2 a1 y0 y1 y2 y3 y4 y5 y6 y7 hE hV
        go_wp2_with fail
        refine (K1.out z3 (Mod.refl [] _)).mono ?_
        rintro e z4 ⟨rfl, m4⟩
        go_wp2_with fail
        refine (K2.out z4 m4).mono ?_
        rintro e z5 ⟨rfl, m5⟩
        have m45 := m4.trans m5
        have K5 := Lib.hid (K3.out z5 m45)
        have K6 := Lib.hid (K4.out z5 m45)
        have FIN := Lib.hid (I3.out.same m45)
        clear m4 m5 m45
        go_wp2_with (first
          | (go_at_call 31; refine K5.out.mono ?_; rintro e w' ⟨rfl, rfl⟩)
          | (go_at_call 43; refine K6.out.mono ?_; rintro e w' ⟨rfl, rfl⟩))
        go_roundw
        case rel => exact ⟨k + 1, by omega, by go_num, FIN.out⟩
        case measure => simp [intOf]; omega
    · obtain rfl : k = n := by omega
      have hlt' : decide (k < k) = false := by simp
      have HM := Lib.hid hI.md
      clear hI
      go_wp2
      go_ret
      exact ⟨rfl, HM.out.below (Nat.le_refl _) (by simp)⟩
end Go.Proofs.YtkajedgghoboaaaDoor
