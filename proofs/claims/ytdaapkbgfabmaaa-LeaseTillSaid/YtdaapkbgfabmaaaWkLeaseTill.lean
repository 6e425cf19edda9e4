/- The walk of the law LeaseTill: a lease runs from the time when it was asked for; what was heard is not heard twice; a lease that was given back is not good; no condition. -/
import Derived.Test.YtdaapkbgfabmaaaProg
import Derived.Test.YtdaapkbgfabmaaaRow
import Derived.Test.YtdaapkbgfabmaaaOwn
import Derived.Test.YtdaapkbgfabmaaaBook3
namespace Go.Proofs.Ytdaapkbgfabmaaa
open Go.RowKit
set_option linter.unusedVariables false
set_option linter.unusedSimpArgs false
attribute [local go_sem ↓] Go.wp_at_zero Go.wp_at_succ

/-- The sum of the first k. -/
def sumTo (x : Nat → Int) : Nat → Int
  | 0 => 0
  | k + 1 => sumTo x k + x k
def sumsV (x : Nat → Int) (k : Nat) : List Value := (List.range k).map fun j => .int .i64 (sumTo x (j + 1))
theorem sumTo_bd (x : Nat → Int) (h : ∀ i, 0 ≤ x i ∧ x i ≤ 255) (k : Nat) : 0 ≤ sumTo x k ∧ sumTo x k ≤ 255 * k := by
  induction k with
  | zero => simp [sumTo]
  | succ k ih =>
    have := h k
    simp only [sumTo]
    omega
structure Asked (W wr : World) (N1 b p q : Nat) (x : Nat → Int) (k : Nat) (tv : Value) : Prop where
  ex : ∃ a, Ow wr b p q 10 2 a k 0 (-1) ∧ ∀ j, j < k → a (j + 1) = sumTo x (j + 1)
  row : wr.ownsRow N1 3 1 tv k (sumsV x k)
  below : Below W.heap.size W wr
  lN : N1 ≤ wr.heap.size

theorem own_empty (w : World) (T : TypeId) : (w.alloc (.cells #[] T)).ownsRow w.heap.size T 1 (.slice (some ⟨w.heap.size, 0, none⟩) 0 0) 0 [] :=
  arr_own (f := fun _ => undef) (cs := #[]) (by show (w.heap.push _)[w.heap.size]? = _; simp) rfl (fun i hi => absurd hi (by omega)) (Nat.le_refl _) (by unfold maxLen; omega) (Nat.le_refl _)
theorem ask_go (w : World) (b p q : Nat) (a : Nat → Int) (k : Nat) (now : Int) (h : Ow w b p q 10 2 a k 0 (-1)) (hk : k < 12) (h0 : 0 ≤ now) (h1 : now ≤ 5000) :
    Calls Try.prog 44 #[.pointer (some ⟨b, 0, none⟩), .int .i64 now] w fun e w' => e = .returned (.tuple #[.int .i64 ((k : Int) + 1), .int .i64 0]) ∧ Ow w' b p q 10 2 (upd a (k + 1) now) ((k + 1 : Nat) : Int) 0 (-1) ∧ Mod [b] w w' := by
  have e0 : askE (k : Int) now = 0 := by
    have : okT now = true := by simp [okT]; omega
    simp [askE, this]; omega
  refine (owAsk_calls w b p q 10 2 a k 0 (-1) now h).mono ?_
  rintro e w' ⟨rfl, h2, h3⟩
  refine ⟨by simp [askV, e0], ?_, h3⟩
  simp only [askA, askL, e0, if_true] at h2
  rw [show ((k : Int) + 1) % 16 = ((k + 1 : Nat) : Int) by omega, Int.toNat_natCast] at h2
  exact h2
theorem got_go (w : World) (b p q : Nat) (a : Nat → Int) (n k : Nat) (len s : Int) (h : Ow w b p q 10 2 a n 0 (-1)) (hk : k < n) (hn : n ≤ 12) (h0 : 0 ≤ len) (h1 : len ≤ 70000) (ha : a (k + 1) = s) :
    Calls Try.prog 46 #[.pointer (some ⟨b, 0, none⟩), .int .i64 ((k : Int) + 1), .int .i64 len] w fun e w' => e = .returned (.int .i64 0) ∧ Ow w' b p q 10 2 a n ((k : Int) + 1) (s + margV len 10 2) ∧ Mod [b] w w' := by
  have ok : okT len = true := by simp [okT]; omega
  have e0 : gotE (n : Int) 0 ((k : Int) + 1) len = 0 := by
    simp only [gotE, ok, Bool.true_eq_false, if_false]
    rw [if_neg (by omega), if_neg (by omega), if_neg (by omega)]
  refine (owGot_calls w b p q 10 2 a n 0 (-1) ((k : Int) + 1) len h).mono ?_
  rintro e w' ⟨rfl, h2, h3⟩
  refine ⟨by rw [e0], ?_, h3⟩
  simp only [gotG, gotT, e0, if_true] at h2
  rw [show ((k : Int) + 1) % 16 = ((k + 1 : Nat) : Int) by omega, Int.toNat_natCast, ha] at h2
  have m0 := (margV_bd len 10 2).1
  have s0 := (h.a0 (k + 1)).1
  rw [ha] at s0
  rw [show max (-1) (s + margV len 10 2) = s + margV len 10 2 by omega] at h2
  exact h2
theorem got_no (w : World) (b p q : Nat) (num slack : Int) (a : Nat → Int) (last got till seq len : Int) (h : Ow w b p q num slack a last got till) (h0 : 0 ≤ len) (h1 : len ≤ 70000) (hs : seq ≤ got) :
    Calls Try.prog 46 #[.pointer (some ⟨b, 0, none⟩), .int .i64 seq, .int .i64 len] w fun e w' => e = .returned (.int .i64 3) ∧ Ow w' b p q num slack a last got till ∧ Mod [b] w w' := by
  have ok : okT len = true := by simp [okT]; omega
  have e0 : gotE last got seq len = 3 := by
    simp only [gotE, ok, Bool.true_eq_false, if_false]
    rw [if_pos hs]
  refine (owGot_calls w b p q num slack a last got till seq len h).mono ?_
  rintro e w' ⟨rfl, h2, h3⟩
  refine ⟨by rw [e0], ?_, h3⟩
  simpa [gotG, gotT, e0] using h2

set_option maxRecDepth 100000 in
set_option maxHeartbeats 800000 in
theorem leaseTill_walk (W : World) (v0 : Value) (c0 : CellOk W (.sl [.int .u8]) v0)
    (a1 : Int) (w1 : (Lit.int .u16 a1).wf = true) (a2 : Int) (w2 : (Lit.int .u8 a2).wf = true) :
    Calls Try.prog 12 #[v0, .int .u16 a1, .int .u8 a2] W fun e w' => e = .returned (.bool true) ∧ Below W.heap.size W w' := by
  obtain ⟨n, f, hA, hf⟩ := c0.slA (by simp)
  obtain ⟨A, cap0, rfl, hn, hcap, hcell⟩ := hA.ex
  have hcap' : cap0 ≤ 9223372036854775807 := by unfold maxLen at hcap; omega
  have b1 := bd_u16 w1
  have b2 := bd_u8 w2
  have b10 := b1.1
  have b11 := b1.2
  have b20 := b2.1
  have b21 := b2.2
  clear hcap c0 hA w1 w2 b1 b2
  by_cases hn0 : n = 0
  · subst hn0
    go_enter Try.func12, Try.ntmps12
    go_wp2_with (go_at_call 27; refine (shown16_calls _).mono ?_; rintro e w' ⟨rfl, m⟩)
    go_ret
    exact ⟨rfl, m.below (Nat.le_refl _) (by simp)⟩
  have hz : ((n : Int) == 0) = false := by simpa using hn0
  by_cases h12 : 12 < n
  · have hi : (12 : Int) < (n : Int) := by omega
    go_enter Try.func12, Try.ntmps12
    go_wp2_with (go_at_call 27; refine (shown16_calls _).mono ?_; rintro e w' ⟨rfl, m⟩)
    go_ret
    exact ⟨rfl, m.below (Nat.le_refl _) (by simp)⟩
  have hd12 : decide (12 < n) = false := by simpa using h12
  have hd12' : decide ((12 : Int) < (n : Int)) = false := by simp; omega
  obtain ⟨X, hX, hXb⟩ : ∃ X : Nat → Int, (∀ i, i < n → f i 0 = .int .u8 (X i)) ∧ ∀ i, 0 ≤ X i ∧ X i ≤ 255 := ⟨fun i => if i < n then (match f i 0 with | .int _ m => m | _ => 0) else 0, fun i hi => by
    obtain ⟨y, e, q⟩ := (hf i 0 _ hi rfl).int_inv
    simp [e, hi], fun i => by
    by_cases hi : i < n
    · obtain ⟨y, e, q⟩ := (hf i 0 _ hi rfl).int_inv
      simpa [e, hi] using bd_u8 q
    · simp [hi]⟩
  obtain ⟨k, htm, hkn⟩ : ∃ k : Nat, a2.tmod (n : Int) = (k : Int) ∧ k < n := ⟨(a2 % (n : Int)).toNat, by
    rw [Int.tmod_eq_emod_of_nonneg b20]
    have := Int.emod_nonneg a2 (show (n : Int) ≠ 0 by omega)
    omega, by
    have := Int.emod_lt_of_pos a2 (show (0 : Int) < n by omega)
    have := Int.emod_nonneg a2 (show (n : Int) ≠ 0 by omega)
    omega⟩
  go_enter Try.func12, Try.ntmps12
  go_wp2_with fail
  refine (shown16_calls _).mono ?_
  rintro e w0 ⟨rfl, m0⟩
  go_wp2_with fail
  refine (owNew_calls _ 10 2).mono ?_
  rintro e w1 ⟨rfl, hb1, m1⟩
  have hs0 := m0.size
  have hb0 := hb1.arr.lt
  have hp0 := hb1.cp.lt
  have hq0 := hb1.cq.lt
  have H0 : Asked W (w1.alloc (.cells #[] 3)) w1.heap.size (w0.heap.size + 1 + 1) w0.heap.size (w0.heap.size + 1) X 0 (.slice (some ⟨w1.heap.size, 0, none⟩) 0 0) := ⟨⟨_, hb1.alloc _, fun j hj => absurd hj (by omega)⟩, own_empty w1 3, (((m0.trans m1).alloc _).below (Nat.le_refl _) (by simp)), by simp⟩
  have l1 : W.heap.size ≤ w0.heap.size + 1 + 1 := by omega
  have l2 := Nat.le_trans hs0 m1.size
  generalize w0.heap.size + 1 + 1 = b at *
  generalize w0.heap.size + 1 = q at *
  generalize w0.heap.size = p at *
  clear m0 m1 hb1 hs0
  go_wp2
  go_loopw [8, 9, 10] (fun t nw i wr => ∃ k' : Nat, k' ≤ n ∧ i = .int .i64 k' ∧ nw = .int .i64 (sumTo X k') ∧ Asked W wr w1.heap.size b p q X k' t) (fun _ _ i _ => n - (intOf i).toNat)
  case atStart => exact ⟨0, Nat.zero_le _, rfl, rfl, H0⟩
  case round =>
    obtain ⟨k', hkn', rfl, rfl, ⟨a, hO, hT⟩, hR, hB, hN⟩ := hrel
    clear H0
    by_cases hlt : k' < n
    · obtain ⟨bl, off, rfl, hcx⟩ := hcell (by omega)
      have y0 := hcx k' 0 hlt (by simp)
      rw [hX k' hlt] at y0
      simp only [List.length_cons, List.length_nil, Nat.zero_add, Nat.add_zero, Nat.mul_one] at y0
      have hbl : bl < W.heap.size := World.block_lt_of_cell? W _ y0
      replace y0 := (hB.cell (p := ⟨bl, _, none⟩) hbl).trans y0
      clear hcx hcell hf hX
      have i0 : (0 : Int) ≤ (k' : Int) := by omega
      have i1 : (k' : Int) < (n : Int) := by omega
      have S0 := sumTo_bd X hXb k'
      have s0 := S0.1
      have s1 := S0.2
      have z0 := (hXb k').1
      have z1 := (hXb k').2
      clear hXb S0
      have C := Lib.hid (ask_go wr b p q a k' (sumTo X k' + X k') hO (by omega) (by omega) (by omega))
      go_wp2_with fail
      refine C.out.mono ?_
      rintro e w3 ⟨rfl, hO3, m3⟩
      have ho1 : (w3.alloc (.cells #[.int .i64 (sumTo X k' + X k')] 3)).ownsRow w1.heap.size 3 1 u8 k' (sumsV X k') :=
        own_mod hR (m3.alloc _) (fun g hg => by have := own_lt' hR g hg; simp; omega)
      have hc0 := new_cell1 w3 (.int .i64 (sumTo X k' + X k')) 3 w3.heap.size rfl
      have m3s := m3.size
      go_wp2_with (at_builtin; go_loud (refine app1 w1.heap.size 31 3 (.int .i64 0) 1 8 Try.underlying31 bk_info_int rfl (by omega) (by omega) rfl _ _ rfl u8 _ _ rfl ho1 w3.heap.size [.int .i64 (sumTo X k' + X k')] rfl rfl (news1 hc0) (by simp [Value.oneCell']) (by omega) (by simp; omega) ?_); intro g cap w4 ho2 hm2 hg hbg)
      go_wp2
      go_roundw
      case rel =>
        have hlo : ∀ y, y < w1.heap.size → y ∉ u8.ownBlock.toList := fun y hy e => by have := own_lt' hR y (by simpa using e); omega
        have hO4 := (hO3.alloc (.cells #[.int .i64 (sumTo X k' + X k')] 3)).mod hm2 (hlo b hb0) (hlo p hp0) (hlo q hq0)
        refine ⟨k' + 1, by omega, by go_num, by simp [sumTo], ⟨⟨_, hO4, ?_⟩, ?_, ?_, ?_⟩⟩
        · intro j hj
          by_cases e : j = k'
          · subst e; simp [upd, sumTo]
          · simp [upd, e]; exact hT j (by omega)
        · simpa [sumsV, List.range_succ, sumTo] using ho2
        · refine below_mod (below_mod hB (m3.alloc _) hB.size ?_) hm2 (by simp; omega) ?_
          · simp; omega
          · intro y hy
            have := own_lt' hR y (by simpa using hy); omega
        · have := hm2.size; simp at this; omega
      case measure => simp [intOf]; omega
    · have e1 : k' = n := by omega
      subst e1
      obtain ⟨g, cg, rfl, hgb, hgn, hgc, hgA⟩ := own_arr hR (by omega)
      have gk := hgA.cell k (by omega)
      have gE : (sumsV X k').getD k undef = .int .i64 (sumTo X (k + 1)) := by
        simp [sumsV, hkn]
      rw [gE] at gk
      have S1 := sumTo_bd X hXb (k + 1)
      have ak := hT k hkn
      have mb := margV_bd a1 10 2
      have mb0 := mb.1
      have mb1 := mb.2.2
      clear hT hXb hf hX hcell gE hR mb
      generalize hs : sumTo X (k + 1) = s at *
      have s0 := S1.1
      have s1 : s ≤ 5000 := by omega
      clear S1 hs
      have C := Lib.hid (got_go wr.drew b p q a k' k a1 s hO.drew hkn (by omega) b10 (by omega) ak)
      clear ak
      go_wp2_with (go_at_call 15; refine (rmargin_calls _ _ _ _).mono ?_; rintro e w' ⟨rfl, rfl⟩)
      generalize margV a1 10 2 = m at *
      have gkD : (wr.drew).cell? ⟨g, k, none⟩ = some (.int .i64 s) := gk
      have ngb : g ∉ [b] := by simp; omega
      have sg1 : decide (s + m ≤ s + m) = true := by simp
      have sg2 : decide (s + m + 1 ≤ s + m) = false := by simp; omega
      have ws1 : IntKind.i64.wrap (s + m) = s + m := by rw [IntKind.wrap_i64]; omega
      have ws2 : IntKind.i64.wrap (s + m + 1) = s + m + 1 := by rw [IntKind.wrap_i64]; omega
      have ws3 : IntKind.i64.wrap a1 = a1 := by rw [IntKind.wrap_i64]; omega
      have ws4 : IntKind.i64.wrap ((k : Int) + 1) = (k : Int) + 1 := by rw [IntKind.wrap_i64]; omega
      have k0 : (0 : Int) ≤ (k : Int) := by omega
      have k1 : (k : Int) < (k' : Int) := by omega
      go_region_held3 (fun w' => w'.cell? ⟨g, k, none⟩ = some (.int .i64 s))
        (first | go_keep | exact gkD | exact m3.cell' gkD ngb)
        (first
          | (go_at_call 46; refine C.out.mono ?_; rintro e w3 ⟨rfl, hO3, m3⟩)
          | (go_at_call 43; refine (owTill_calls _ _ _ _ _ _ _ _ _ _ (by assumption)).mono ?_; rintro e w' ⟨rfl, rfl⟩)
          | (go_at_call 50; refine (owGood_calls _ _ _ _ _ _ _ _ _ _ _ (by assumption)).mono ?_; rintro e w' ⟨rfl, rfl⟩))
      have M3 : Mod [b] wr w3 := m3.of_drew
      have hbw := hO.arr.lt
      have hgw : g < wr.heap.size := hgA.lt
      clear C hO m3 gkD hgA
      generalize wr = wo at *
      go_wp2
      go_loopw [15] (fun i wt => ∃ j : Nat, j ≤ k + 1 ∧ i = .int .i64 j ∧ Ow wt b p q 10 2 a k' ((k : Int) + 1) (s + m) ∧ Mod [b] wo wt) (fun i _ => k + 1 - (intOf i).toNat)
      case atStart => exact ⟨0, by omega, rfl, hO3, M3⟩
      case round =>
        obtain ⟨j, hj, rfl, hOt, Mt⟩ := hrel
        clear hO3 M3
        by_cases hlt2 : j ≤ k
        · have i0 : (0 : Int) ≤ (j : Int) := by omega
          have i1 : (j : Int) ≤ (k : Int) := by omega
          have C := Lib.hid (got_no wr b p q 10 2 a k' ((k : Int) + 1) (s + m) ((j : Int) + 1) (a1 + 50) hOt (by omega) (by omega) (by omega))
          go_wp2_with (go_at_call 46; refine C.out.mono ?_; rintro e w4 ⟨rfl, hO4, m4⟩)
          go_roundw
          case rel => exact ⟨j + 1, by omega, by go_num, hO4, Mt.trans m4⟩
          case measure => simp [intOf]; omega
        · have i1 : ¬ ((j : Int) ≤ (k : Int)) := by omega
          have gkt : (wr.drew).cell? ⟨g, k, none⟩ = some (.int .i64 s) := Mt.cell' gk ngb
          have C := Lib.hid (owTill_calls wr.drew b p q 10 2 a k' ((k : Int) + 1) (s + m) hOt.drew)
          have C2 := Lib.hid (owLose_calls wr.drew b p q 10 2 a k' ((k : Int) + 1) (s + m) hOt.drew)
          go_wp2_with fail
          go_region_held3 (fun w' => w'.cell? ⟨g, k, none⟩ = some (.int .i64 s))
            (first | go_keep | exact gkt)
            (first
              | (go_at_call 43; refine C.out.mono ?_; rintro e w' ⟨rfl, rfl⟩))
          go_wp2_with fail
          refine C2.out.mono ?_
          rintro e w5 ⟨rfl, hO5, m5⟩
          go_wp2_with fail
          refine (owGood_calls _ _ _ _ _ _ _ _ _ _ _ hO5).mono ?_
          rintro e w' ⟨rfl, rfl⟩
          go_wp2_with fail
          refine (got_no _ _ _ _ _ _ _ _ _ _ _ _ hO5 b10 (by omega) (Int.le_refl _)).mono ?_
          rintro e w6 ⟨rfl, hO6, m6⟩
          go_wp2_with fail
          go_ret
          refine ⟨rfl, ?_⟩
          have := hB.size
          exact below_mod hB ((Mt.trans m5.of_drew).trans m6) hB.size (by simp; omega)
end Go.Proofs.Ytdaapkbgfabmaaa
