/- What a history of clocks holds in memory; what the document's Way, outrun and Fair come to; a row's ways added up. No condition beyond what stands in each. -/
import Derived.Test.YtdaapkbgfabmaaaProg
import Derived.Test.YtdaapkbgfabmaaaLib
import Derived.Test.YtdaapkbgfabmaaaMarg
import Derived.Test.YtdaapkbgfabmaaaFairP
import Derived.StillTailTactics
namespace Go.Proofs.Ytdaapkbgfabmaaa
open Go.RowKit
set_option linter.unusedVariables false
set_option linter.unusedSimpArgs false
attribute [local go_sem ↓] Go.wp_at_zero Go.wp_at_succ

/-- A slice of n ints. -/
structure IRow (w : World) (v : Value) (n : Nat) (x : Nat → Int) : Prop where
  ex : ∃ A cap, v = .slice A n cap ∧ n ≤ cap ∧ cap ≤ maxLen ∧ (0 < n → ∃ b off, A = some ⟨b, off, none⟩ ∧ ∀ j, j < n → w.cell? ⟨b, off + j, none⟩ = some (.int .i64 (x j)))
/-- A slice of m slices of ints. -/
structure Ticks (w : World) (v : Value) (m : Nat) (len : Nat → Nat) (x : Nat → Nat → Int) : Prop where
  ex : ∃ (A : Option Addr) (cap : Nat) (rv : Nat → Value), v = .slice A m cap ∧ m ≤ cap ∧ cap ≤ maxLen ∧ (0 < m → ∃ b off, A = some ⟨b, off, none⟩ ∧ ∀ i, i < m → w.cell? ⟨b, off + i, none⟩ = some (rv i)) ∧ ∀ i, i < m → IRow w (rv i) (len i) (x i)
/-- What lies below n₁ lies as it lay. -/
def Under (n₁ : Nat) (w w' : World) : Prop := ∀ k, k < n₁ → w'.heap[k]? = w.heap[k]?
theorem Under.cell {n₁ : Nat} {w w' : World} (h : Under n₁ w w') {p : Addr} {u : Value} (hp : p.block < n₁) (hc : w.cell? p = some u) : w'.cell? p = some u := (World.cell?_of_block (w := w) (h _ hp)).trans hc
theorem Under.trans {n₁ : Nat} {a b c : World} (h : Under n₁ a b) (k : Under n₁ b c) : Under n₁ a c := fun i hi => (k i hi).trans (h i hi)
theorem Under.refl (n₁ : Nat) (a : World) : Under n₁ a a := fun _ _ => rfl
theorem Mod.under {S : List Nat} {w w' : World} (m : Mod S w w') {n₁ : Nat} (h1 : n₁ ≤ w.heap.size) (hs : ∀ x, x ∈ S → n₁ ≤ x) : Under n₁ w w' := fun k hk => m.block k (by omega) (fun e => by have := hs k e; omega)
theorem IRow.under {w w' : World} {v : Value} {n : Nat} {x : Nat → Int} (h : IRow w v n x) (h0 : Under w.heap.size w w') : IRow w' v n x := by
  obtain ⟨A, cap, h1, h2, h3, h4⟩ := h.ex
  refine ⟨A, cap, h1, h2, h3, fun hn => ?_⟩
  obtain ⟨b, off, e1, e2⟩ := h4 hn
  exact ⟨b, off, e1, fun j hj => h0.cell (World.block_lt_of_cell? w _ (e2 j hj)) (e2 j hj)⟩
theorem Ticks.under {w w' : World} {v : Value} {m : Nat} {len : Nat → Nat} {x : Nat → Nat → Int} (h : Ticks w v m len x) (h0 : Under w.heap.size w w') : Ticks w' v m len x := by
  obtain ⟨A, cap, rv, h1, h2, h3, h4, h5⟩ := h.ex
  refine ⟨A, cap, rv, h1, h2, h3, fun hn => ?_, fun i hi => (h5 i hi).under h0⟩
  obtain ⟨b, off, e1, e2⟩ := h4 hn
  exact ⟨b, off, e1, fun j hj => h0.cell (World.block_lt_of_cell? w _ (e2 j hj)) (e2 j hj)⟩
theorem Ticks.below {w w' : World} {v : Value} {m : Nat} {len : Nat → Nat} {x : Nat → Nat → Int} (h : Ticks w v m len x) (h0 : Below w.heap.size w w') : Ticks w' v m len x := h.under fun k hk => h0.block k hk
theorem IRow.below {w w' : World} {v : Value} {n : Nat} {x : Nat → Int} (h : IRow w v n x) (h0 : Below w.heap.size w w') : IRow w' v n x := h.under fun k hk => h0.block k hk

def rwOf (len : Nat → Nat) (x : Nat → Nat → Int) (i j : Nat) : Int := if j < len i then clampV (x i j) 1048576 else 0
theorem rwOf_ok (len : Nat → Nat) (x : Nat → Nat → Int) : RwOk (rwOf len x) := fun i j => by
  unfold rwOf
  split
  · exact clampV_bd _ _ (by omega)
  · omega

/-! ### the document's -/
theorem rmany_calls (w : World) (n : Int) : Calls Try.prog 54 #[.int .i64 n] w fun e w' => e = .returned (.int .i64 (max 1 (min n 8))) ∧ w = w' := by
  have key : ∀ m : Int, max 1 (min n 8) = m → Ending.returned (.int .i64 m) = .returned (.int .i64 (max 1 (min n 8))) := fun m h => by rw [← h]
  go_enter Try.func54, Try.ntmps54
  go_wp2
  all_goals (go_ret; exact ⟨key _ (by omega), rfl⟩)

set_option maxHeartbeats 1000000 in
theorem way_calls (w : World) (v : Value) (m : Nat) (len : Nat → Nat) (x : Nat → Nat → Int) (h : Ticks w v m len x) (a b j : Nat) (hb : b < m) (hm : m ≤ 1000) (hj : j ≤ 1000) :
    Calls Try.prog 26 #[v, .int .i64 a, .int .i64 b, .int .i64 j] w fun e w' => e = .returned (.int .i64 (sumW (rwOf len x) a (b + 1 - a) j)) ∧ w = w' := by
  obtain ⟨A, cap, rv, rfl, h2, h3, h4, h5⟩ := h.ex
  obtain ⟨tb, to, rfl, hc⟩ := h4 (by omega)
  unfold maxLen at h3
  by_cases hab : b < a
  · have E := Lib.hid (show sumW (rwOf len x) a (b + 1 - a) j = 0 by rw [show b + 1 - a = 0 by omega]; rfl)
    have hba : ¬ ((a : Int) ≤ (b : Int)) := by omega
    go_enter Try.func26, Try.ntmps26
    go_wp2
    go_loop [9, 10] (fun s i => s = .int .i64 0 ∧ i = .int .i64 a) (fun _ _ => 0)
    case atStart => exact ⟨rfl, rfl⟩
    case round =>
      obtain ⟨rfl, rfl⟩ := hrel
      go_wp2
      go_ret
      exact ⟨by rw [E.out]; rfl, rfl⟩
  · go_enter Try.func26, Try.ntmps26
    go_wp2
    go_loop [9, 10] (fun s i => ∃ k : Nat, a ≤ k ∧ k ≤ b + 1 ∧ i = .int .i64 k ∧ s = .int .i64 (sumW (rwOf len x) a (k - a) j)) (fun _ i => b + 1 - (intOf i).toNat)
    case atStart => exact ⟨a, Nat.le_refl _, by omega, rfl, by simp [sumW]⟩
    case round =>
      obtain ⟨k, hk1, hk2, rfl, rfl⟩ := hrel
      have bd := sumW_bd (rwOf_ok len x) a j (k - a)
      have b0 : 0 ≤ sumW (rwOf len x) a (k - a) j := bd.1
      have b1 : sumW (rwOf len x) a (k - a) j ≤ 10485760000 := by omega
      by_cases hlt : k ≤ b
      · have hs : sumW (rwOf len x) a (k + 1 - a) j = sumW (rwOf len x) a (k - a) j + rwOf len x k j := by
          rw [show k + 1 - a = (k - a) + 1 by omega]
          simp only [sumW]
          rw [show a + (k - a) = k by omega]
        have HS := Lib.hid hs
        clear hs bd
        have hck := hc k (by omega)
        obtain ⟨Ar, capr, er, r2, r3, r4⟩ := (h5 k (by omega)).ex
        rw [er] at hck
        unfold maxLen at r3
        have i0 : (0 : Int) ≤ (k : Int) := by omega
        have i1 : (k : Int) < (m : Int) := by omega
        by_cases hjl : j < len k
        · obtain ⟨rb, ro, rfl, rc⟩ := r4 (by omega)
          have rcj := rc j hjl
          have cb := clampV_bd (x k j) 1048576 (by omega)
          have cb1 := cb.1
          have cb2 := cb.2
          have E := Lib.hid (show rwOf len x k j = clampV (x k j) 1048576 by unfold rwOf; rw [if_pos hjl])
          clear rc r4 hc h4 h5 cb
          go_wp2_with (go_at_call 53; refine (rclamp_calls _ _ _).mono ?_; rintro e w' ⟨rfl, rfl⟩)
          go_round
          case rel => exact ⟨k + 1, by omega, by omega, by go_num, by rw [HS.out, E.out]⟩
          case measure => simp [intOf]; omega
        · have E := Lib.hid (show rwOf len x k j = 0 by unfold rwOf; rw [if_neg hjl])
          have hjl' : decide (j < len k) = false := by simpa using hjl
          clear r4 hc h4 h5
          go_wp2
          go_round
          case rel => exact ⟨k + 1, by omega, by omega, by go_num, by rw [HS.out, E.out]; go_num⟩
          case measure => simp [intOf]; omega
      · obtain rfl : k = b + 1 := by omega
        go_wp2
        go_ret
        exact ⟨rfl, rfl⟩

set_option maxHeartbeats 2000000 in
theorem outrun_calls (w : World) (v : Value) (m : Nat) (len : Nat → Nat) (x : Nat → Nat → Int) (h : Ticks w v m len x) (a b n : Nat) (num slack : Int) (hb : b < m) (hm : m ≤ 1000) (hn : n ≤ 8)
    (n0 : 0 ≤ num) (n1 : num ≤ 1000) (s0 : 0 ≤ slack) (s1 : slack ≤ 1048576) :
    Calls Try.prog 56 #[v, .int .i64 a, .int .i64 b, .int .i64 n, .int .i64 num, .int .i64 slack] w fun e w' => e = .returned (.bool (badB (rwOf len x) n num slack a b)) ∧ w = w' := by
  go_enter Try.func56, Try.ntmps56
  go_wp2
  go_loop [13, 14] (fun i _ => ∃ k : Nat, k ≤ n ∧ i = .int .i64 k ∧ Hid (∀ i j, i < k → j < n → 100 * sumW (rwOf len x) a (b + 1 - a) i ≤ (100 + num) * sumW (rwOf len x) a (b + 1 - a) j + 100 * slack)) (fun i _ => n - (intOf i).toNat)
  case atStart => exact ⟨0, Nat.zero_le _, rfl, Lib.hid (fun i j hi => absurd hi (by omega))⟩
  case round =>
    obtain ⟨k, hk, rfl, HK⟩ := hrel
    by_cases hlt : k < n
    · go_wp2
      go_loop [14] (fun i => ∃ q : Nat, q ≤ n ∧ i = .int .i64 q ∧ Hid (∀ j, j < q → 100 * sumW (rwOf len x) a (b + 1 - a) k ≤ (100 + num) * sumW (rwOf len x) a (b + 1 - a) j + 100 * slack)) (fun i => n - (intOf i).toNat)
      case atStart => exact ⟨0, Nat.zero_le _, rfl, Lib.hid (fun j hj => absurd hj (by omega))⟩
      case round =>
        obtain ⟨q, hq, rfl, HQ⟩ := hrel
        by_cases hlq : q < n
        · have bk := sumW_bd (rwOf_ok len x) a k (b + 1 - a)
          have bq := sumW_bd (rwOf_ok len x) a q (b + 1 - a)
          have k0 := bk.1
          have q0 := bq.1
          have k1 : sumW (rwOf len x) a (b + 1 - a) k ≤ 1048576000 := by omega
          have q1 : sumW (rwOf len x) a (b + 1 - a) q ≤ 1048576000 := by omega
          have p0 : 0 ≤ (100 + num) * sumW (rwOf len x) a (b + 1 - a) q := Int.mul_nonneg (by omega) q0
          have p1 : (100 + num) * sumW (rwOf len x) a (b + 1 - a) q ≤ 1100 * 1048576000 := Int.mul_le_mul (by omega) q1 q0 (by omega)
          by_cases hbad : (100 + num) * sumW (rwOf len x) a (b + 1 - a) q + 100 * slack < 100 * sumW (rwOf len x) a (b + 1 - a) k
          · have E := Lib.hid (show badB (rwOf len x) n num slack a b = true from badB_yes.2 ⟨k, q, hlt, hlq, hbad⟩)
            clear bk bq
            go_wp2_with (first | (go_at_call 26; refine (way_calls _ _ _ _ _ h _ _ _ hb hm (by omega)).mono ?_; rintro e w' ⟨rfl, rfl⟩))
            go_ret
            exact ⟨by rw [E.out]; rfl, rfl⟩
          · clear bk bq
            go_wp2_with (first | (go_at_call 26; refine (way_calls _ _ _ _ _ h _ _ _ hb hm (by omega)).mono ?_; rintro e w' ⟨rfl, rfl⟩))
            go_round
            case rel => exact ⟨q + 1, by omega, by go_num, Lib.hid (fun j hj => by
              rcases Nat.lt_or_ge j q with h' | h'
              · exact HQ.out j h'
              · rw [show j = q by omega]; omega)⟩
            case measure => simp [intOf]; omega
        · obtain rfl : q = n := by omega
          go_wp2
          go_round
          case rel => exact ⟨k + 1, by omega, by go_num, Lib.hid (fun i j hi hj => by
            rcases Nat.lt_or_ge i k with h' | h'
            · exact HK.out i j h' hj
            · rw [show i = k by omega]; exact HQ.out j hj)⟩
          case measure => simp [intOf]; omega
    · obtain rfl : k = n := by omega
      have E := Lib.hid (show badB (rwOf len x) k num slack a b = false from badB_no.2 (fun ⟨i, j, hi, hj, hh⟩ => by have := HK.out i j hi hj; omega))
      go_wp2
      go_ret
      exact ⟨by rw [E.out]; rfl, rfl⟩

def FairE (bad : Nat → Nat → Bool) (m : Nat) (e : Ending) : Prop := ∃ (x y : Int) (z : Bool), e = .returned (.tuple #[.int .i64 x, .int .i64 y, .bool z]) ∧ FairIs bad m x y z

set_option maxHeartbeats 2000000 in
theorem rfair_calls (w : World) (v : Value) (m : Nat) (len : Nat → Nat) (x : Nat → Nat → Int) (h : Ticks w v m len x) (hm : m ≤ 1000) (n num slack : Int) :
    Calls Try.prog 25 #[v, .int .i64 n, .int .i64 num, .int .i64 slack] w fun e w' => FairE (badB (rwOf len x) (max 1 (min n 8)).toNat (clampV num 1000) (clampV slack 1048576)) m e ∧ w = w' := by
  obtain ⟨A, cap, rv, rfl, h2, h3, h4, h5⟩ := h.ex
  obtain ⟨N, hN, hN1, hN8⟩ : ∃ N : Nat, max 1 (min n 8) = (N : Int) ∧ 1 ≤ N ∧ N ≤ 8 := ⟨(max 1 (min n 8)).toNat, by omega, by omega, by omega⟩
  have HN := Lib.hid hN
  rw [hN, Int.toNat_natCast]
  clear hN
  obtain ⟨c1, c1'⟩ := clampV_bd num 1000 (by omega)
  obtain ⟨c2, c2'⟩ := clampV_bd slack 1048576 (by omega)
  clear h4 h5
  go_enter Try.func25, Try.ntmps25
  go_wp2_with fail
  refine (rmany_calls _ _).mono ?_
  rintro e w' ⟨rfl, rfl⟩
  rw [HN.out]
  go_wp2_with (go_at_call 53; refine (rclamp_calls _ _ _).mono ?_; rintro e w' ⟨rfl, rfl⟩)
  go_loop [11, 12] (fun i _ => ∃ k : Nat, k ≤ m ∧ i = .int .i64 k ∧ Hid (∀ t a, t < k → a ≤ t → badB (rwOf len x) N (clampV num 1000) (clampV slack 1048576) a t = false)) (fun i _ => m - (intOf i).toNat)
  case atStart => exact ⟨0, Nat.zero_le _, rfl, Lib.hid (fun i j hi => absurd hi (by omega))⟩
  case round =>
    obtain ⟨k, hk, rfl, HK⟩ := hrel
    by_cases hlt : k < m
    · go_wp2
      go_loop [12] (fun i => ∃ q : Nat, q ≤ k + 1 ∧ i = .int .i64 q ∧ Hid (∀ a, k < a + q → a ≤ k → badB (rwOf len x) N (clampV num 1000) (clampV slack 1048576) a k = false)) (fun i => k + 1 - (intOf i).toNat)
      case atStart => exact ⟨0, Nat.zero_le _, rfl, Lib.hid (fun a ha hb => absurd ha (by omega))⟩
      case round =>
        obtain ⟨q, hq, rfl, HQ⟩ := hrel
        by_cases hlq : q ≤ k
        · obtain ⟨a, ha⟩ : ∃ a : Nat, (k : Int) - (q : Int) = (a : Int) := ⟨k - q, by omega⟩
          have HA := Lib.hid ha
          have ha' : a + q = k := by omega
          have HA' := Lib.hid ha'
          clear ha ha'
          by_cases hbad : badB (rwOf len x) N (clampV num 1000) (clampV slack 1048576) a k = true
          · have E : FairE (badB (rwOf len x) N (clampV num 1000) (clampV slack 1048576)) m (.returned (.tuple #[.int .i64 a, .int .i64 k, .bool false])) :=
              ⟨_, _, _, rfl, .inr ⟨a, k, hlt, by have := HA'.out; omega, hbad, rfl, rfl, rfl, fun t' a' ht ha => HK.out t' a' ht ha, fun a' h1 h2 => HQ.out a' (by have := HA'.out; omega) h2⟩⟩
            have E' := Lib.hid E
            have HB := Lib.hid hbad
            clear E hbad
            go_wp2_with fail
            rw [HA.out]
            refine (outrun_calls w _ m len x h a k N _ _ hlt hm hN8 c1 c1' c2 c2').mono ?_
            rintro e w' ⟨rfl, rfl⟩
            rw [HB.out]
            go_wp2_with fail
            go_ret3
            exact ⟨by rw [HA.out]; exact E'.out, rfl⟩
          · have hbad' : badB (rwOf len x) N (clampV num 1000) (clampV slack 1048576) a k = false := by simpa using hbad
            have HB := Lib.hid hbad'
            clear hbad hbad'
            go_wp2_with fail
            rw [HA.out]
            refine (outrun_calls w _ m len x h a k N _ _ hlt hm hN8 c1 c1' c2 c2').mono ?_
            rintro e w' ⟨rfl, rfl⟩
            rw [HB.out]
            go_wp2_with fail
            go_round
            case rel => exact ⟨q + 1, by omega, by go_num, Lib.hid (fun a' h1 h2 => by
              rcases Nat.lt_or_ge k (a' + q) with h' | h'
              · exact HQ.out a' h' h2
              · rw [show a' = a by have := HA'.out; omega]; exact HB.out)⟩
            case measure => simp [intOf]; omega
        · go_wp2
          go_round
          case rel => exact ⟨k + 1, by omega, by go_num, Lib.hid (fun t a ht ha => by
            rcases Nat.lt_or_ge t k with h' | h'
            · exact HK.out t a h' ha
            · obtain rfl : t = k := by omega
              exact HQ.out a (by omega) ha)⟩
          case measure => simp [intOf]; omega
    · obtain rfl : k = m := by omega
      have E : FairE (badB (rwOf len x) N (clampV num 1000) (clampV slack 1048576)) k (.returned (.tuple #[.int .i64 0, .int .i64 0, .bool true])) := ⟨_, _, _, rfl, .inl ⟨rfl, rfl, rfl, HK.out⟩⟩
      have E' := Lib.hid E
      clear E
      go_wp2
      go_ret3
      exact ⟨E'.out, rfl⟩
end Go.Proofs.Ytdaapkbgfabmaaa
