/- The walk of the law SpanPuts: what is put is had, block by block; where it is refused, for somebody's sake, that one is told; what is cut is not had any more. The premise: the variable 'whole' holds what its initialiser lays. -/
import Derived.Test.YtkajedgghoboaaaDoorProg
import Derived.Test.YtkajedgghoboaaaDoorRow
import Derived.Test.YtkajedgghoboaaaDoorScr
import Derived.Test.YtkajedgghoboaaaDoorPutsP
namespace Go.Proofs.YtkajedgghoboaaaDoor
open Go.RowKit
set_option linter.unusedVariables false
set_option linter.unusedSimpArgs false
attribute [local go_sem ↓] Go.wp_at_zero Go.wp_at_succ

theorem hold_of {W : World} {s : Array Value} (h : CellsOk W [.int .i64, .int .i64, .int .i64, .int .i64] s.toList) : ∃ a b c d : Int, s = #[.int .i64 a, .int .i64 b, .int .i64 c, .int .i64 d] := by
  obtain ⟨l⟩ := s
  obtain ⟨h1, h2⟩ := h
  match l, h1 with
  | [x, y, z, u], _ =>
    obtain ⟨a, rfl, _⟩ := (h2 0 _ x rfl rfl).int_inv
    obtain ⟨b, rfl, _⟩ := (h2 1 _ y rfl rfl).int_inv
    obtain ⟨c, rfl, _⟩ := (h2 2 _ z rfl rfl).int_inv
    obtain ⟨d, rfl, _⟩ := (h2 3 _ u rfl rfl).int_inv
    exact ⟨a, b, c, d, rfl⟩
/-- Behind the steps: the program's table alone; the hold's cells. -/
structure PuI (W wr : World) (bT Bh : Nat) (a b c m : Int) (t : Nat → Nat → Nat) : Prop where
  tb : Tb wr bT t
  wh : Whole wr
  h0 : wr.cell? ⟨Bh, 0, none⟩ = some (.int .i64 a)
  h1 : wr.cell? ⟨Bh, 1, none⟩ = some (.int .i64 b)
  h2 : wr.cell? ⟨Bh, 2, none⟩ = some (.int .i64 c)
  h3 : wr.cell? ⟨Bh, 3, none⟩ = some (.int .i64 m)
  md : Mod [] W wr
  ne : Bh ≠ bT
  n0 : bT ≠ 0
  lo : W.heap.size ≤ bT
theorem PuI.next {W wr w' : World} {bT Bh : Nat} {a b c m : Int} {t t' : Nat → Nat → Nat} (h : PuI W wr bT Bh a b c m t) (hT : Tb w' bT t') (k : Mod [bT] wr w') : PuI W w' bT Bh a b c m t' := by
  have hne := h.ne
  have hn0 := h.n0
  have hlo := h.lo
  exact ⟨hT, h.wh.mod k (by simp; omega), k.cell' h.h0 (by simpa using hne), k.cell' h.h1 (by simpa using hne), k.cell' h.h2 (by simpa using hne), k.cell' h.h3 (by simpa using hne), h.md.fresh k (fun x hx => .inr (by simp at hx; omega)), hne, hn0, hlo⟩
theorem PuI.same {W wr w' : World} {bT Bh : Nat} {a b c m : Int} {t : Nat → Nat → Nat} (h : PuI W wr bT Bh a b c m t) (k : Mod [] wr w') : PuI W w' bT Bh a b c m t :=
  ⟨h.tb.mod k (by simp), h.wh.mod k (by simp), k.cell' h.h0 (by simp), k.cell' h.h1 (by simp), k.cell' h.h2 (by simp), k.cell' h.h3 (by simp), h.md.trans k, h.ne, h.n0, h.lo⟩

set_option maxRecDepth 100000 in
set_option maxHeartbeats 8000000 in
theorem spanPuts_walk (W : World) (t0 : Whole W) (v0 : Value) (c0 : CellOk W (.sl [.int .i64, .int .i64, .int .i64, .int .i64, .int .i64]) v0)
    (s1 : Array Value) (c1 : CellsOk W [.int .i64, .int .i64, .int .i64, .int .i64] s1.toList) :
    Calls Tryd.prog 7 #[v0, .agg s1] W fun e w' => e = .returned (.bool true) ∧ Below W.heap.size W w' := by
  obtain ⟨a, b, c, m, rfl⟩ := hold_of c1
  obtain ⟨n, f, hA, hf⟩ := c0.slA (by simp)
  obtain ⟨A, cap0, rfl, hn, hcap, hcell⟩ := hA.ex
  have hcap' : cap0 ≤ 9223372036854775807 := by unfold maxLen at hcap; omega
  obtain ⟨W1, hW1⟩ : ∃ W1, W1 = W.alloc (.cells #[.int .i64 a, .int .i64 b, .int .i64 c, .int .i64 m] 31) := ⟨_, rfl⟩
  have MW : Mod [] W W1 := by rw [hW1]; exact (Mod.refl [] W).alloc _
  have q0 : W1.cell? ⟨W.heap.size, 0, none⟩ = some (.int .i64 a) := by rw [hW1]; simp
  have q1 : W1.cell? ⟨W.heap.size, 1, none⟩ = some (.int .i64 b) := by rw [hW1]; simp
  have q2 : W1.cell? ⟨W.heap.size, 2, none⟩ = some (.int .i64 c) := by rw [hW1]; simp
  have q3 : W1.cell? ⟨W.heap.size, 3, none⟩ = some (.int .i64 m) := by rw [hW1]; simp
  have hsz : W.heap.size < W1.heap.size := by rw [hW1]; simp
  have HQ0 := Lib.hid q0
  have HQ1 := Lib.hid q1
  have HQ2 := Lib.hid q2
  have HQ3 := Lib.hid q3
  have HT := Lib.hid (t0.mod MW (by simp))
  have HMW := Lib.hid MW
  have HW1 := Lib.hid hW1
  clear hcap c0 hA c1 t0 MW hW1 q0 q1 q2 q3
  by_cases h40 : 30 < n
  · have hi : (30 : Int) < (n : Int) := by omega
    go_enter Tryd.func7, Tryd.ntmps7
    go_wp2_with fail
    rw [← HW1.out]
    refine (shown_calls _ HT.out).mono ?_
    rintro e w' ⟨rfl, k⟩
    go_wp2
    go_ret
    exact ⟨rfl, (HMW.out.trans k).below (Nat.le_refl _) (by simp)⟩
  have h5 : decide (30 < n) = false := by simpa using h40
  go_enter Tryd.func7, Tryd.ntmps7
  go_wp2_with fail
  rw [← HW1.out]
  refine (shown_calls _ HT.out).mono ?_
  rintro e z2 ⟨rfl, m2⟩
  have I3 := scI_new (HT.out.mod m2 (by simp)) m2 (World.block_lt_of_cell? W1 _ HT.out.1)
  go_wp2_with (go_at_call 16; refine (spNew_calls z2).mono ?_; rintro e z3 ⟨rfl, rfl⟩)
  obtain ⟨bT, hbT⟩ : ∃ bT, bT = z2.heap.size := ⟨_, rfl⟩
  rw [← hbT] at I3 ⊢
  obtain ⟨r, hr⟩ : ∃ r, r = bT + 1 := ⟨_, rfl⟩
  rw [← hr] at I3 ⊢
  have HI := Lib.hid I3
  clear m2 I3 hbT hr
  go_loopw [7] (fun i wr => ∃ k : Nat, k ≤ n ∧ i = .int .i64 k ∧ ScI W1 wr W1.heap.size bT r) (fun i _ => n - (intOf i).toNat)
  case atStart => exact ⟨0, Nat.zero_le _, rfl, HI.out⟩
  case round =>
    obtain ⟨k, hkn, rfl, hI⟩ := hrel
    clear HI
    by_cases hlt : k < n
    · obtain ⟨bl, off, rfl, hx⟩ := hcell (by omega)
      obtain ⟨x0, e0, q0⟩ := (hf k 0 _ hlt rfl).int_inv
      obtain ⟨x1, e1, q1⟩ := (hf k 1 _ hlt rfl).int_inv
      obtain ⟨x2, e2, q2⟩ := (hf k 2 _ hlt rfl).int_inv
      obtain ⟨x3, e3, q3⟩ := (hf k 3 _ hlt rfl).int_inv
      obtain ⟨x4, e4, q4⟩ := (hf k 4 _ hlt rfl).int_inv
      have y0 := hx k 0 hlt (by simp)
      have y1 := hx k 1 hlt (by simp)
      have y2 := hx k 2 hlt (by simp)
      have y3 := hx k 3 hlt (by simp)
      have y4 := hx k 4 hlt (by simp)
      rw [e0] at y0
      rw [e1] at y1
      rw [e2] at y2
      rw [e3] at y3
      rw [e4] at y4
      simp only [List.length_cons, List.length_nil, Nat.zero_add, Nat.reduceAdd, Nat.add_zero] at y0 y1 y2 y3 y4
      replace y0 := hI.md.cell' (HMW.out.cell' y0 (by simp)) (by simp)
      replace y1 := hI.md.cell' (HMW.out.cell' y1 (by simp)) (by simp)
      replace y2 := hI.md.cell' (HMW.out.cell' y2 (by simp)) (by simp)
      replace y3 := hI.md.cell' (HMW.out.cell' y3 (by simp)) (by simp)
      replace y4 := hI.md.cell' (HMW.out.cell' y4 (by simp)) (by simp)
      clear hx e0 e1 e2 e3 e4 hf hcell q0 q1 q2 q3 q4
      have i0 : (0 : Int) ≤ (k : Int) := by omega
      have i1 : (k : Int) < (n : Int) := by omega
      obtain ⟨t, hp⟩ := hI.ex
      have C1 := Lib.hid ((does15_calls wr W1.heap.size bT r t x0 x1 x2 x3 x4 hp).mono (R' := fun e w' => e = .returned (.bool true) ∧ ScI W1 w' W1.heap.size bT r) (by
        rintro e w' ⟨he, t', hp', hm, -⟩
        exact ⟨he, hI.next hp' hm⟩))
      clear hI hp
      go_wp2_with (go_at_call 22; refine C1.out.mono ?_; rintro e z1 ⟨rfl, J⟩; have HJ := Lib.hid J; clear J)
      go_roundw
      case rel => exact ⟨k + 1, by omega, by go_num, HJ.out⟩
      case measure => simp [intOf]; omega
    · obtain rfl : k = n := by omega
      have hlt' : decide (k < k) = false := by simp
      clear hf hcell
      obtain ⟨t, hp⟩ := hI.ex
      have PI : PuI W wr bT W.heap.size a b c m t := ⟨hp.tb, hp.wh, hI.md.cell' HQ0.out (by simp), hI.md.cell' HQ1.out (by simp), hI.md.cell' HQ2.out (by simp), hI.md.cell' HQ3.out (by simp), HMW.out.trans hI.md, by have := hI.s1; omega, hp.n0, by have := hI.s1; omega⟩
      have k0 := PI.h0
      have k1 := PI.h1
      have k2 := PI.h2
      have k3 := PI.h3
      have HP := Lib.hid PI
      clear hI hp PI
      go_wp2_with fail
      refine (spAgainst_calls wr bT t a b c m HP.out.tb).mono ?_
      rintro e z5 ⟨v, rfl, ho, m5⟩
      obtain ⟨p9, cap9, rfl⟩ := own_slice ho
      obtain ⟨L, hL⟩ : ∃ L, L = (someL t a b (pAg c m)).length := ⟨_, rfl⟩
      rw [← hL]
      have HL := Lib.hid hL
      have P5 := HP.out.same m5
      replace k0 := P5.h0
      replace k1 := P5.h1
      replace k2 := P5.h2
      replace k3 := P5.h3
      have HP5 := Lib.hid P5
      clear ho hL m5 P5
      go_wp2_with fail
      refine (spPut_calls z5 bT t a b c m HP5.out.tb HP5.out.wh HP5.out.n0).mono ?_
      rintro e z6 ⟨rfl, T6, m6⟩
      have P6 := HP5.out.next T6 m6
      replace k0 := P6.h0
      replace k1 := P6.h1
      replace k2 := P6.h2
      replace k3 := P6.h3
      have hw6 := World.block_lt_of_cell? z6 _ k0
      have HP6 := Lib.hid P6
      have PH := Lib.hid (put_held (t := t) (a := a) (b := b) (c := c) (m := m))
      have PO := Lib.hid (putE_ok (t := t) (a := a) (b := b) (c := c) (m := m))
      clear T6 m6 P6
      obtain ⟨E, hE⟩ : ∃ E, E = putE t a b c m := ⟨_, rfl⟩
      rw [← hE]
      rw [← hE, ← HL.out] at PH
      have HE := Lib.hid hE
      clear hE
      by_cases e0 : E = 0
      · obtain ⟨g1, g2, g3, g4, g5, g6, -⟩ := PO.out (by rw [← HE.out]; exact e0)
        subst e0
        have hL0 : L = 0 := by rw [HL.out, g6]; rfl
        subst hL0
        have hE0 := HE.out
        simp only [inC8, decide_eq_true_eq] at g1
        obtain ⟨a', rfl⟩ : ∃ a' : Nat, a = a' := ⟨a.toNat, by omega⟩
        obtain ⟨b', rfl⟩ : ∃ b' : Nat, b = b' := ⟨b.toNat, by omega⟩
        obtain ⟨c', rfl⟩ : ∃ c' : Nat, c = c' := ⟨c.toNat, by omega⟩
        have c8 : c' < 8 := by omega
        have hab : a' < b' := by omega
        have hb6 : b' ≤ 256 := by omega
        have HAS := Lib.hid (fun (k : Nat) (h1 : a' ≤ k) (h2 : k < b') => put_had c8 hb6 g2 hE0.symm h1 h2)
        have HLO := Lib.hid (fun (k : Nat) (h1 : a' ≤ k) (h2 : k < b') => put_lo c8 hb6 g2 hE0.symm h1 h2)
        obtain ⟨t1, ht1⟩ : ∃ t1, t1 = putT t a' b' c' m := ⟨_, rfl⟩
        rw [← ht1] at HP6 HAS HLO
        clear ht1 hE0 HE PH PO g1 g2 g3 g4 g5 g6 HL HP HP5
        go_wp2
        go_loop [10] (fun i => ∃ k : Nat, a' ≤ k ∧ k ≤ b' ∧ i = .int .i64 k) (fun i => b' - (intOf i).toNat)
        case atStart => exact ⟨a', Nat.le_refl _, by omega, rfl⟩
        case round =>
          obtain ⟨k, hk1, hk2, rfl⟩ := hrel
          by_cases hlt : k < b'
          · have H1 := Lib.hid (HAS.out k hk1 hlt)
            go_wp2_with (go_at_call 21; refine (spHas_calls _ bT t1 c' k m HP6.out.tb).mono ?_; rintro e w' ⟨rfl, rfl⟩; rw [H1.out])
            go_round
            case rel => exact ⟨k + 1, by omega, by omega, by go_num⟩
            case measure => simp [intOf]; omega
          · obtain rfl : k = b' := by omega
            have hltk : decide (k < k) = false := by simp
            go_wp2_with fail
            refine (spWeaken_calls z6 bT t1 c' a' k HP6.out.tb).mono ?_
            rintro e z7 ⟨v7, rfl, -, T7, m7⟩
            have P7 := HP6.out.next T7 m7
            replace k0 := P7.h0
            replace k1 := P7.h1
            replace k2 := P7.h2
            replace k3 := P7.h3
            have HW2 := Lib.hid (fun (q : Nat) (h1 : a' ≤ q) (h2 : q < k) => weak_two (t := t1) c8 hb6 h1 h2)
            have HW1' := Lib.hid (fun (q : Nat) (h1 : a' ≤ q) (h2 : q < k) => weak_one (t := t1) c8 hb6 h1 h2 (HLO.out q h1 h2))
            obtain ⟨t2, ht2⟩ : ∃ t2, t2 = setT t1 c' a' k (fun m => min m 1) := ⟨_, rfl⟩
            rw [← ht2] at P7 HW2 HW1'
            have HP7 := Lib.hid P7
            clear T7 m7 P7 ht2 HP6
            go_wp2
            go_loop [11] (fun i => ∃ q : Nat, a' ≤ q ∧ q ≤ k ∧ i = .int .i64 q) (fun i => k - (intOf i).toNat)
            case atStart => exact ⟨a', Nat.le_refl _, by omega, rfl⟩
            case round =>
              obtain ⟨q, hq1, hq2, rfl⟩ := hrel
              by_cases hlt : q < k
              · have H1 := Lib.hid (HW2.out q hq1 hlt)
                have H2 := Lib.hid (HW1'.out q hq1 hlt)
                go_wp2_with fail
                refine (spHas_calls _ bT t2 c' q 2 HP7.out.tb).mono ?_
                rintro e w' ⟨rfl, rfl⟩
                rw [H1.out]
                go_wp2_with fail
                refine (spHas_calls _ bT t2 c' q 1 HP7.out.tb).mono ?_
                rintro e w' ⟨rfl, rfl⟩
                rw [H2.out]
                go_wp2
                go_round
                case rel => exact ⟨q + 1, by omega, by omega, by go_num⟩
                case measure => simp [intOf]; omega
              · obtain rfl : q = k := by omega
                go_wp2_with fail
                refine (spCut_calls z7 bT t2 c' a' q HP7.out.tb).mono ?_
                rintro e z8 ⟨v8, rfl, -, T8, m8⟩
                have P8 := HP7.out.next T8 m8
                replace k0 := P8.h0
                replace k1 := P8.h1
                replace k2 := P8.h2
                replace k3 := P8.h3
                have H3 := Lib.hid (cut_had (t := t2) c8 hb6 hab)
                have H4 := Lib.hid (cut_none (t := t2) (a := a') c8 hb6)
                obtain ⟨t3, ht3⟩ : ∃ t3, t3 = setT t2 c' a' q (fun _ => 0) := ⟨_, rfl⟩
                rw [← ht3] at P8 H3 H4
                have HP8 := Lib.hid P8
                clear T8 m8 P8 ht3 HP7
                go_wp2_with fail
                refine (spHas_calls _ bT t3 c' a' 1 HP8.out.tb).mono ?_
                rintro e w' ⟨rfl, rfl⟩
                rw [H3.out]
                go_wp2_with fail
                refine (spCut_calls _ bT t3 c' a' q HP8.out.tb).mono ?_
                rintro e z9 ⟨v9, rfl, ho, T9, m9⟩
                rw [H4.out] at ho
                obtain ⟨p10, cap10, rfl⟩ := own_slice ho
                have HP9 := Lib.hid (HP8.out.next T9 m9)
                clear ho T9 m9
                go_wp2
                go_ret
                exact ⟨rfl, HP9.out.md.below (Nat.le_refl _) (by simp)⟩
      · have e0' : (E != 0) = true := by simpa using e0
        by_cases e1 : E = 150
        · obtain ⟨g1, g2, g3, g4⟩ := PH.out.1 e1
          have e1' : (E == 150) = true := by simpa using e1
          have e1'' : (E != 150) = false := by simpa using e1
          have g1' : (0 : Int) < (L : Int) := by omega
          have hb2 : (m == 1) = true ∨ ((m == 1) = false ∧ (m == 2) = true) := by
            rcases g4 with h | h
            · exact .inl (by simpa using h)
            · exact .inr ⟨by simp; omega, by simpa using h⟩
          clear e0 e1 g1 g4
          rcases hb2 with f1 | ⟨f1, f2⟩
          all_goals
            go_wp2_with (first
              | (go_at_call 28; refine (rclient_calls _ _).mono ?_; rintro e w' ⟨rfl, rfl⟩; rw [g2])
              | (go_at_call 14; refine (blocks_calls _ _ _).mono ?_; rintro e w' ⟨rfl, rfl⟩; rw [g3]))
            go_ret
            exact ⟨rfl, (HP6.out.md.alloc _).below (Nat.le_refl _) (by simp)⟩
        · have e1' : (E == 150) = false := by simpa using e1
          have e1'' : (E != 150) = true := by simpa using e1
          have hno : ¬ (0 < L ∧ inC8 c = true ∧ blk a b = true ∧ (m = 1 ∨ m = 2)) := fun h => e1 (PH.out.2 h)
          clear e0 e1
          by_cases l0 : 0 < L
          · have l0' : (0 : Int) < (L : Int) := by omega
            cases hc : inC8 c with
            | false =>
              clear hno
              go_wp2_with (first
                | (go_at_call 28; refine (rclient_calls _ _).mono ?_; rintro e w' ⟨rfl, rfl⟩; rw [hc]))
              go_ret
              exact ⟨rfl, (HP6.out.md).below (Nat.le_refl _) (by simp)⟩
            | true =>
              cases hb : blk a b with
              | false =>
                clear hno
                go_wp2_with (first
                  | (go_at_call 28; refine (rclient_calls _ _).mono ?_; rintro e w' ⟨rfl, rfl⟩; rw [hc])
                  | (go_at_call 14; refine (blocks_calls _ _ _).mono ?_; rintro e w' ⟨rfl, rfl⟩; rw [hb]))
                go_ret
                exact ⟨rfl, (HP6.out.md.alloc _).below (Nat.le_refl _) (by simp)⟩
              | true =>
                have f1 : (m == 1) = false := by simp; intro h; exact hno ⟨l0, hc, hb, .inl h⟩
                have f2 : (m == 2) = false := by simp; intro h; exact hno ⟨l0, hc, hb, .inr h⟩
                clear hno
                go_wp2_with (first
                  | (go_at_call 28; refine (rclient_calls _ _).mono ?_; rintro e w' ⟨rfl, rfl⟩; rw [hc])
                  | (go_at_call 14; refine (blocks_calls _ _ _).mono ?_; rintro e w' ⟨rfl, rfl⟩; rw [hb]))
                go_ret
                exact ⟨rfl, (HP6.out.md.alloc _).below (Nat.le_refl _) (by simp)⟩
          · have l0' : ¬ (0 : Int) < (L : Int) := by omega
            clear hno
            go_wp2
            go_ret
            exact ⟨rfl, (HP6.out.md).below (Nat.le_refl _) (by simp)⟩
end Go.Proofs.YtkajedgghoboaaaDoor
