/- What Put, Cut, Weaken, Drop and Has of the document's table come to. No condition beyond what stands in each. -/
import Derived.Test.YtijjbkkcienfgaaDoorRefD
namespace Go.Proofs.YtijjbkkcienfgaaDoor
open Go.RowKit
set_option linter.unusedVariables false
set_option linter.unusedSimpArgs false
attribute [local go_sem ↓] Go.wp_at_zero Go.wp_at_succ

theorem setT_congr {t : Nat → Nat → Nat} (hb : ∀ c k, t c k ≤ 2) (c a b : Int) {g g' : Nat → Nat} (h : ∀ m, m ≤ 2 → g m = g' m) : setT t c a b g = setT t c a b g' := by
  unfold setT
  split
  · funext d k
    unfold setN
    split
    · exact h _ (hb d k)
    · rfl
  · rfl
def RPutP (w : World) (base r : Nat) (t : Nat → Nat → Nat) (a b c m : Int) (e : Ending) (w' : World) : Prop :=
  e = .returned (.int .i64 (putE t a b c m)) ∧ RTab w' base r (putT t a b c m) ∧ Mod [r] w w'

set_option maxRecDepth 100000 in
set_option maxHeartbeats 4000000 in
theorem rput_calls (w : World) (base r : Nat) (t : Nat → Nat → Nat) (a b c m : Int) (hT : RTab w base r t) (hbs : base ≤ w.heap.size) :
    Calls Tryd.prog 72 #[.pointer (some ⟨r, 0, none⟩), .agg #[.int .i64 a, .int .i64 b, .int .i64 c, .int .i64 m]] w (RPutP w base r t a b c m) := by
  obtain ⟨w1, hw1⟩ : ∃ w1, w1 = w.alloc (.cells #[.int .i64 a, .int .i64 b, .int .i64 c, .int .i64 m] 39) := ⟨_, rfl⟩
  have M1 : Mod [] w w1 := by rw [hw1]; exact (Mod.refl [] w).alloc _
  have K0 : w1.cell? ⟨w.heap.size, 0, none⟩ = some (.int .i64 a) := by rw [hw1]; simp
  have K1 : w1.cell? ⟨w.heap.size, 1, none⟩ = some (.int .i64 b) := by rw [hw1]; simp
  have K2 : w1.cell? ⟨w.heap.size, 2, none⟩ = some (.int .i64 c) := by rw [hw1]; simp
  have K3 : w1.cell? ⟨w.heap.size, 3, none⟩ = some (.int .i64 m) := by rw [hw1]; simp
  have s1 : w.heap.size + 1 = w1.heap.size := by rw [hw1]; simp
  have HT := Lib.hid (hT.same M1)
  have HW1 := Lib.hid hw1
  have HM1 := Lib.hid M1
  have S1 := Lib.hid s1
  have hl : r < w.heap.size := by obtain ⟨v, h, _⟩ := hT.ex; exact h.lt
  clear hT M1 hw1 s1
  have fail_of : ∀ (x : Int) (w' : World), putE t a b c m = x → x ≠ 0 → Mod [] w1 w' → RPutP w base r t a b c m (.returned (.int .i64 x)) w' := fun x w' h hx m => by
    refine ⟨by rw [h], ?_, (HM1.out.trans m).nil⟩
    unfold putT
    rw [if_neg (by rw [h]; exact hx)]
    exact HT.out.same m
  have FAIL := Lib.hid fail_of
  clear fail_of
  have HK0 := Lib.hid K0
  have HK1 := Lib.hid K1
  have HK2 := Lib.hid K2
  have HK3 := Lib.hid K3
  clear K0 K1 K2 K3
  by_cases hc : inC8 c = false
  · have E := Lib.hid (show putE t a b c m = 1 by simp [putE, hc])
    go_enter Tryd.func72, Tryd.ntmps72
    go_wp2_with (go_at_call 18; refine (rclient_calls _ _).mono ?_; rintro e w' ⟨rfl, rfl⟩)
    rw [← HW1.out]
    go_ret
    exact FAIL.out _ _ E.out (by decide) (Mod.refl _ _)
  have hc' : inC8 c = true := by simpa using hc
  by_cases hm : m ≠ 1 ∧ m ≠ 2
  · have E := Lib.hid (show putE t a b c m = 1 by simp [putE, hc', hm])
    have d1 : (m != 1) = true := by simpa using hm.1
    have d2 : (m != 2) = true := by simpa using hm.2
    clear hc hm
    go_enter Tryd.func72, Tryd.ntmps72
    go_wp2_with (go_at_call 18; refine (rclient_calls _ _).mono ?_; rintro e w' ⟨rfl, rfl⟩)
    rw [← HW1.out]
    go_ret
    exact FAIL.out _ _ E.out (by decide) (Mod.refl _ _)
  have hm12 : m = 1 ∨ m = 2 := by omega
  have E1 : putE t a b c m = if a < 0 then 71 else if b ≤ a then 71 else if 256 < b then 71 else if 0 < (someL t a b (pAg c m)).length then 150 else if 256 < (listL (upT t a b c m)).length then 2 else 0 := by
    unfold putE
    rw [if_neg hc, if_neg hm]
  have dm : (m != 1) = false ∨ ((m != 1) = true ∧ (m != 2) = false) := by
    rcases hm12 with h | h
    · exact .inl (by simpa using h)
    · exact .inr ⟨by simp; omega, by simpa using h⟩
  have HM12 := Lib.hid hm12
  clear hm hc hm12
  by_cases hbk : blk a b = false
  · have E := Lib.hid (show putE t a b c m = 71 by
      rw [E1]
      by_cases h1 : a < 0
      · rw [if_pos h1]
      · by_cases h2 : b ≤ a
        · rw [if_neg h1, if_pos h2]
        · rw [if_neg h1, if_neg h2, if_pos (by
            simp only [blk, Bool.and_eq_false_iff, decide_eq_false_iff_not] at hbk
            omega)])
    clear E1
    rcases dm with d1 | ⟨d1, d2⟩
    all_goals
      go_enter Tryd.func72, Tryd.ntmps72
      go_wp2_with (first
        | (go_at_call 18; refine (rclient_calls _ _).mono ?_; rintro e w' ⟨rfl, rfl⟩)
        | (go_at_call 11; refine (blocks_calls _ _ _).mono ?_; rintro e w' ⟨rfl, rfl⟩))
      rw [← HW1.out]
      go_ret
      exact FAIL.out _ _ E.out (by decide) ((Mod.refl _ _).alloc _)
  have hbk' : blk a b = true := by simpa using hbk
  have hblk := hbk'
  simp only [blk, Bool.and_eq_true, decide_eq_true_eq] at hblk
  rw [if_neg (by omega), if_neg (by omega), if_neg (by omega)] at E1
  clear hbk
  obtain ⟨n, hn⟩ : ∃ n, (someL t a b (pAg c m)).length = n := ⟨_, rfl⟩
  rw [hn] at E1
  have HNN := Lib.hid hn
  obtain ⟨w2, hw2⟩ : ∃ w2, w2 = w1.alloc (.cells #[.int .i64 a, .int .i64 b] 23) := ⟨_, rfl⟩
  have M2 : Mod [] w1 w2 := by rw [hw2]; exact (Mod.refl [] w1).alloc _
  have HW2 := Lib.hid hw2
  have HM2 := Lib.hid M2
  have HT2 := Lib.hid (HT.out.same M2)
  clear hn M2 hw2
  by_cases hn0 : 0 < n
  · have E := Lib.hid (show putE t a b c m = 150 by rw [E1, if_pos hn0])
    have hnI : (0 : Int) < (n : Int) := by omega
    clear E1
    rcases dm with d1 | ⟨d1, d2⟩
    all_goals
      go_enter Tryd.func72, Tryd.ntmps72
      go_wp2_with (first
        | (go_at_call 18; refine (rclient_calls _ _).mono ?_; rintro e w' ⟨rfl, rfl⟩)
        | (go_at_call 11; refine (blocks_calls _ _ _).mono ?_; rintro e w' ⟨rfl, rfl⟩))
      rw [← HW1.out, ← HW2.out]
      refine (ragainst_calls w2 base r t a b c m HT2.out).mono ?_
      rintro e z ⟨v, rfl, ho, mz⟩
      rw [HNN.out] at ho
      obtain ⟨p9, cap9, rfl⟩ := own_slice ho
      have MZ := Lib.hid (HM2.out.trans mz)
      clear ho mz
      go_wp2
      go_ret
      exact FAIL.out _ _ E.out (by decide) MZ.out
  have hn00 : n = 0 := by omega
  subst hn00
  rw [if_neg hn0] at E1
  clear hn0
  have hup : setT t c a b (g3 m.toNat m.toNat 2) = upT t a b c m := by
    unfold upT
    refine setT_congr HT.out.bd _ _ _ (fun x hx => ?_)
    unfold g3
    rcases HM12.out with h | h
    · subst h
      split
      · rename_i h; subst h; rfl
      · split
        · rename_i h; subst h; rfl
        · have : x = 2 := by omega
          subst this; rfl
    · subst h
      split
      · rename_i h; subst h; rfl
      · split
        · rename_i h; subst h; rfl
        · have : x = 2 := by omega
          subst this; rfl
  have HUP := Lib.hid hup
  have HE1 := Lib.hid E1
  clear hup E1 hblk
  obtain ⟨mn, hmn⟩ : ∃ mn : Nat, m = mn := ⟨m.toNat, by have := HM12.out; omega⟩
  subst hmn
  rw [Int.toNat_natCast] at HUP
  rcases dm with d1 | ⟨d1, d2⟩
  all_goals
    go_enter Tryd.func72, Tryd.ntmps72
    go_wp2_with (first
      | (go_at_call 18; refine (rclient_calls _ _).mono ?_; rintro e w' ⟨rfl, rfl⟩)
      | (go_at_call 11; refine (blocks_calls _ _ _).mono ?_; rintro e w' ⟨rfl, rfl⟩))
    rw [← HW1.out, ← HW2.out]
    refine (ragainst_calls w2 base r t a b c mn HT2.out).mono ?_
    rintro e z ⟨v, rfl, ho, mz⟩
    rw [HNN.out] at ho
    obtain ⟨p9, cap9, rfl⟩ := own_slice ho
    have MZ := Lib.hid (HM2.out.trans mz)
    have HTz := HT2.out.same mz
    obtain ⟨v0, hbx, ho0⟩ := HTz.ex
    obtain ⟨p0, cap0, rfl, -⟩ := own_holds' ho0
    have z0 := hbx.cell
    have k0 := MZ.out.cell' HK0.out (by simp)
    have k1 := MZ.out.cell' HK1.out (by simp)
    have k2 := MZ.out.cell' HK2.out (by simp)
    have k3 := MZ.out.cell' HK3.out (by simp)
    have hzs : w.heap.size < z.heap.size := by have := MZ.out.size; have := S1.out; omega
    have hrz := hbx.lt
    obtain ⟨q, hq⟩ : ∃ q, q = z.alloc (.cells #[.int .i64 mn, .int .i64 mn, .int .i64 2] 3) := ⟨_, rfl⟩
    have MQ : Mod [] z q := by rw [hq]; exact (Mod.refl [] z).alloc _
    have t0 : q.cell? ⟨z.heap.size, 0, none⟩ = some (.int .i64 (mn : Nat)) := by rw [hq]; simp
    have t1 : q.cell? ⟨z.heap.size, 1, none⟩ = some (.int .i64 (mn : Nat)) := by rw [hq]; simp
    have t2 : q.cell? ⟨z.heap.size, 2, none⟩ = some (.int .i64 (2 : Nat)) := by rw [hq]; simp
    have CS := Lib.hid (rset_calls q base r z.heap.size t c a b mn mn 2 (HTz.same MQ) (by have := HM12.out; omega) (by have := HM12.out; omega) (by omega) t0 t1 t2 (by have := MQ.size; have := HM1.out.size; omega))
    have HQ := Lib.hid hq
    have HMQ := Lib.hid MQ
    have HO0 := Lib.hid ho0
    have HBX := Lib.hid hbx
    clear ho mz MQ t0 t1 t2 hq hbx ho0 HTz
    go_wp2_with fail
    rw [← HQ.out]
    refine CS.out.mono ?_
    rintro e x ⟨rfl, hTx, mx⟩
    rw [HUP.out] at hTx
    obtain ⟨vx, hbxx, hox⟩ := hTx.ex
    obtain ⟨px, capx, rfl, -⟩ := own_holds' hox
    have x0 := hbxx.cell
    have xf := hbxx.frozen
    have xl := hbxx.lt
    obtain ⟨N, hN⟩ : ∃ N, N = (listL (upT t a b c mn)).length := ⟨_, rfl⟩
    rw [← hN] at x0
    have HN := Lib.hid hN
    have HTX := Lib.hid hTx
    have MX := Lib.hid (((MZ.out.trans HMQ.out).nil.trans mx : Mod [r] w1 x))
    clear hN hox hTx k0 k1 k2 k3 z0
    by_cases hfull : 256 < N
    · have E := Lib.hid (show putE t a b c mn = 2 by rw [HE1.out, ← HN.out, if_pos hfull])
      have hfI : (256 : Int) < (N : Int) := by omega
      have FIN : RPutP w base r t a b c mn (.returned (.int .i64 2)) (x.setCell ⟨r, 0, none⟩ (.slice p0 (listL t).length cap0)) := by
        refine ⟨by rw [E.out], ?_, (HM1.out.nil.trans MX.out).setCell (by simp) _⟩
        unfold putT
        rw [if_neg (by rw [E.out]; decide)]
        refine ⟨⟨_, hbxx.set _, own_mod (own_mod HO0.out (HMQ.out.nil.trans mx : Mod [r] z x) (fun k hk hs => ?_)) ((Mod.refl [r] x).setCell (by simp) _) (fun k hk hs => ?_)⟩, HT.out.bd⟩
        all_goals
          have e' : k = r := by simpa using hs
          subst e'
          have h1 := own_type HO0.out k (by simpa using hk) _ _ HBX.out
          exact absurd h1 (by decide)
      have HFIN := Lib.hid FIN
      clear FIN hbxx mx hfull
      go_wp2
      go_ret
      exact HFIN.out
    · have E := Lib.hid (show putE t a b c mn = 0 by rw [HE1.out, ← HN.out, if_neg hfull])
      have hfI : ¬ (256 : Int) < (N : Int) := by omega
      have FIN : RPutP w base r t a b c mn (.returned (.int .i64 0)) x := by
        refine ⟨by rw [E.out], ?_, HM1.out.nil.trans MX.out⟩
        unfold putT
        rw [if_pos E.out]
        exact HTX.out
      have HFIN := Lib.hid FIN
      clear FIN hbxx mx hfull
      go_wp2
      go_ret
      exact HFIN.out
end Go.Proofs.YtijjbkkcienfgaaDoor
