/- The iterator over the windows of a history (clock.windows): it gives all windows in their order, each with the ways in it. No condition. -/
import Derived.Test.YtdaapkbgfabmaaaFair2
import Derived.Test.YtdaapkbgfabmaaaRange
import Derived.Deep.DeepCutAuto
namespace Go.Proofs.Ytdaapkbgfabmaaa
open Go.RowKit Go.Shelf
set_option linter.unusedVariables false
set_option linter.unusedSimpArgs false
attribute [local go_sem] Oper.semAt_some
attribute [local go_sem ↓] Go.wp_at_zero Go.wp_at_succ

def winEnc (len : Nat → Nat) (x : Nat → Nat → Int) (p : Nat × Nat) : Array Value :=
  #[.agg #[.int .i64 p.1, .int .i64 p.2], .agg (waysA (sumW (rwOf len x) p.1 (p.2 + 1 - p.1)))]
/-- The windows that have come: all that end ahead of t, and q of those that end at t. -/
def winsTo (t q : Nat) : List (Nat × Nat) := wins t ++ (List.range q).map fun k => (t - k, t)
theorem winsTo_zero (t : Nat) : winsTo t 0 = wins t := by simp [winsTo]
theorem winsTo_full (t : Nat) : winsTo t (t + 1) = wins (t + 1) := by simp [winsTo, wins]
theorem winsTo_succ (t q : Nat) : winsTo t (q + 1) = winsTo t q ++ [(t - q, t)] := by simp [winsTo, List.range_succ]
theorem wins_prefix : ∀ {t m : Nat}, t ≤ m → wins t <+: wins m
  | t, 0, h => by obtain rfl : t = 0 := by omega
                  exact List.prefix_refl _
  | t, m + 1, h => by
    by_cases e : t = m + 1
    · subst e; exact List.prefix_refl _
    · exact (wins_prefix (show t ≤ m by omega)).trans ⟨_, rfl⟩
theorem winsTo_prefix {t m q : Nat} (ht : t < m) (hq : q ≤ t + 1) : winsTo t q <+: wins m := by
  refine List.IsPrefix.trans ?_ (wins_prefix (show t + 1 ≤ m by omega))
  rw [← winsTo_full]
  have key : ∀ d, winsTo t q <+: winsTo t (q + d) := by
    intro d
    induction d with
    | zero => exact List.prefix_refl _
    | succ d ih => rw [← Nat.add_assoc, winsTo_succ]; exact ih.trans ⟨_, rfl⟩
  have := key (t + 1 - q)
  rwa [show q + (t + 1 - q) = t + 1 by omega] at this
theorem winsTo_lt {t m q : Nat} (ht : t < m) (hq : q ≤ t) : (winsTo t q).length < (wins m).length := by
  have := (winsTo_prefix ht (show q + 1 ≤ t + 1 by omega)).length_le
  rw [winsTo_succ, List.length_append] at this
  simp at this
  omega

/-- What an iterator's own world keeps of the world in which it began. -/
def KpFrom (K : Nat → Prop) (W wr : World) : Prop := W.heap.size ≤ wr.heap.size ∧ ∀ k, k < W.heap.size → K k → wr.heap[k]? = W.heap[k]?

theorem KpFrom.mod {K : Nat → Prop} {W wr wr' : World} {S : List Nat} (h : KpFrom K W wr) (m : Mod S wr wr') (hs : ∀ s, s ∈ S → W.heap.size ≤ s) : KpFrom K W wr' :=
  ⟨Nat.le_trans h.1 m.size, fun k hk hkk => (m.block k (Nat.lt_of_lt_of_le hk h.1) (fun e => by have := hs k e; omega)).trans (h.2 k hk hkk)⟩
theorem KpFrom.kp {K : Nat → Prop} {B : List Nat} {W wr wr' : World} (h : KpFrom K W wr) (m : Kp B K wr wr') : KpFrom K W wr' :=
  ⟨Nat.le_trans h.1 m.1, fun k hk hkk => (m.2 k (Nat.lt_of_lt_of_le hk h.1) (.inr hkk)).trans (h.2 k hk hkk)⟩
theorem Kp.arr {K : Nat → Prop} {B : List Nat} {w w' : World} {b : Nat} {T : TypeId} {N : Nat} {f : Nat → Value} (m : Kp B K w w') (h : Arr w b T N f) (hb : b ∈ B) : Arr w' b T N f := by
  have hl := h.lt
  obtain ⟨cs, h1, h2, h3⟩ := h
  exact ⟨cs, (m.2 b hl (.inl hb)).trans h1, h2, h3⟩
theorem addW_sum (len : Nat → Nat) (x : Nat → Nat → Int) (a q j : Nat) : addW (len a) (x a) (sumW (rwOf len x) (a + 1) q) j = sumW (rwOf len x) a (q + 1) j := by
  rw [sumW_head]
  rfl

set_option maxRecDepth 100000 in
set_option maxHeartbeats 4000000 in
theorem windows_iter (w : World) (Bt n₁ : Nat) (v : Value) (m : Nat) (len : Nat → Nat) (x : Nat → Nat → Int) (w1 : World) (h1 : w1.heap.size = n₁) (h : Ticks w1 v m len x) (hw : Under n₁ w1 w) (hn1 : n₁ ≤ w.heap.size) (hm : m ≤ 1000)
    (hBt : w.cell? ⟨Bt, 0, none⟩ = some v) :
    Iter Try.prog 62 #[.pointer (some ⟨Bt, 0, none⟩)] (winEnc len x) (fun k => k < n₁ ∨ k = Bt) (fun xs => xs = wins m) (fun pre => pre <+: wins m) (fun pre x => pre ++ [x] <+: wins m) [] w := by
  intro l J Jx W hmW hclo hR h0
  have hBl := World.block_lt_of_cell? w _ hBt
  have hB : W.cell? ⟨Bt, 0, none⟩ = some v := hmW.cell' hBt (by simp)
  have hT : Under n₁ w1 W := hw.trans (fun k hk => hmW.block k (by omega) (by simp))
  have hWs := hmW.size
  have hn1W : n₁ ≤ W.heap.size := by omega
  have hBlW : Bt < W.heap.size := by simp at hBl; omega
  obtain ⟨A, cap, rv, rfl, h2, h3, h4, h5⟩ := h.ex
  unfold maxLen at h3
  clear hmW hBt hBl hw
  refine callsIn_of_wp Try.func62 rfl trivial ?_ rfl
  simp only [Try.ntmps62, List.size_toArray, List.length_cons, List.length_nil, Nat.reduceAdd, Nat.reduceSub, Array.replicate_succ, Array.replicate_zero, List.push_toArray, List.append_toArray, List.nil_append, List.cons_append]
  gi_wp2
  gi_loopw [8] (fun i wr => ∃ (t : Nat) (B : List Nat), t ≤ m ∧ i = .int .i64 t ∧ J (wins t) B wr ∧ KpFrom (fun k => k < n₁ ∨ k = Bt) W wr) (fun i _ => m - (intOf i).toNat)
  case atStart => exact ⟨0, [], Nat.zero_le _, rfl, h0, Nat.le_refl _, fun _ _ _ => rfl⟩
  case round =>
    obtain ⟨t, B, ht, rfl, hJ, hK⟩ := hrel
    by_cases hlt : t < m
    · have hb4 : W.heap.size ≤ wr.heap.size := hK.1
      have hmA : Mod [] wr (wr.alloc (.cells (waysA fun _ => 0) 91)) := (Mod.refl _ _).alloc _
      have hJ2 : J (winsTo t 0) (wr.heap.size :: B) (wr.alloc (.cells (waysA fun _ => 0) 91)) := by
        rw [winsTo_zero]
        exact hclo _ _ _ _ _ hJ hmA.nil (fun b hb => List.mem_cons_of_mem _ hb) (fun b hb => by
          rcases List.mem_cons.1 hb with e | e
          · exact .inr ⟨by omega, by simp; omega⟩
          · exact .inl e)
      have hA2 := arr8_new wr 91 (fun _ => 0)
      have hK2 := hK.mod hmA (by simp)
      unfold waysA at hJ2 hA2 hK2
      gi_wp2
      clear hJ hK hmA
      generalize wr.alloc _ = wo at *
      generalize wr.heap.size = b4 at *
      obtain ⟨tb, tof, rfl, hc⟩ := h4 (by omega)
      gi_loopw [5] (fun i wr => ∃ (q : Nat) (z : Int), q ≤ t + 1 ∧ i = .int .i64 z ∧ Hid (z = (t : Int) - q) ∧ J (winsTo t q) (b4 :: B) wr ∧ Arr wr b4 91 8 (fun j => .int .i64 (sumW (rwOf len x) (t + 1 - q) q j)) ∧ KpFrom (fun k => k < n₁ ∨ k = Bt) W wr) (fun i _ => (intOf i + 1).toNat)
      case atStart => exact ⟨0, t, by omega, rfl, Lib.hid (by simp), hJ2, hA2.congr (fun j _ => by simp [sumW]), hK2⟩
      case round =>
        obtain ⟨q, z, hq, rfl, hz, hJ, hA, hK⟩ := hrel
        clear hJ2 hA2 hK2
        by_cases hlq : q ≤ t
        · obtain ⟨a, rfl, ha⟩ : ∃ a : Nat, z = a ∧ a + q = t := ⟨t - q, by have := hz.out; omega, by omega⟩
          have hUn : Under n₁ w1 wr := fun k hk => (hK.2 k (by omega) (.inl hk)).trans (hT k hk)
          have ca : wr.cell? ⟨tb, tof + a, none⟩ = some (rv a) := hUn.cell (by have := World.block_lt_of_cell? w1 _ (hc a (by omega)); omega) (hc a (by omega))
          have cB : wr.cell? ⟨Bt, 0, none⟩ = some (.slice (some ⟨tb, tof, none⟩) m cap) := (World.cell?_of_block (w := W) (hK.2 Bt hBlW (.inr rfl))).trans hB
          have hrow : IRow wr (rv a) (len a) (x a) := (h5 a (by omega)).under (by rw [h1]; exact hUn)
          have hwo := rwOf_ok len x
          have hbd : ∀ j, 0 ≤ sumW (rwOf len x) (a + 1) q j ∧ sumW (rwOf len x) (a + 1) q j ≤ 1099511627776 := fun j => by
            have := sumW_bd hwo (a + 1) j q
            omega
          have hA' : Arr wr b4 91 8 (fun j => .int .i64 (sumW (rwOf len x) (a + 1) q j)) := by rw [show a + 1 = t + 1 - q by omega]; exact hA
          obtain ⟨c0, c1, c2, c3, c4, c5, c6, c7⟩ := arr8 hA'
          have fz := fun i => hA'.free i
          have i0 : (0 : Int) ≤ (a : Int) := by omega
          have i1 : (a : Int) < (m : Int) := by omega
          have Hbd := Lib.hid hbd
          have HUn := Lib.hid hUn
          have Hwo := Lib.hid hwo
          have HA := Lib.hid hA'
          clear hA hbd hUn hwo hA'
          gi_wp2
          refine wpIn_wide.2 ?_
          go_cut [4] from 16 to 21 (fun s4 wx => s4 = .pointer (some ⟨b4, 0, none⟩) ∧ Arr wx b4 91 8 (fun j => .int .i64 (sumW (rwOf len x) a (q + 1) j)) ∧ J (winsTo t q) (b4 :: B) wx ∧ KpFrom (fun k => k < n₁ ∨ k = Bt) W wx)
          case first =>
            go_region_with (go_at_call 63; refine (add_calls _ _ (len a) (x a) (sumW (rwOf len x) (a + 1) q) (by first | exact hrow | exact hrow.under (fun _ _ => rfl)) Hbd.out).mono ?_; rintro e w9 ⟨rfl, m9⟩; have hA9 := HA.out.drew.mod m9 (by simp); obtain ⟨d0, d1, d2, d3, d4, d5, d6, d7⟩ := arr8 hA9; have f9 := fun i => hA9.free i; unfold waysA)
            all_goals
              have m10 : Mod [b4] wr (put8 w9 b4 (addW (len a) (x a) (sumW (rwOf len x) (a + 1) q))) := (Mod.of_drew m9).nil.trans (put8_mod w9 b4 _)
              have hA10 : Arr (put8 w9 b4 (addW (len a) (x a) (sumW (rwOf len x) (a + 1) q))) b4 91 8 (fun j => .int .i64 (sumW (rwOf len x) a (q + 1) j)) :=
                (put8_arr hA9 _).congr (fun j _ => by rw [addW_sum])
              have hJ10 : J (winsTo t q) (b4 :: B) (put8 w9 b4 (addW (len a) (x a) (sumW (rwOf len x) (a + 1) q))) :=
                hclo _ _ _ _ _ hJ (m10.mono (by simp)) (fun b hb => hb) (fun b hb => .inl hb)
              have hK10 := hK.mod m10 (by simpa using hb4)
              have HH := Lib.hid (And.intro hA10 (And.intro hJ10 hK10))
              clear hA10 hJ10 hK10 m10
              go_wp2
              go_meet
              exact ⟨rfl, HH.out⟩
          case rest =>
            obtain ⟨rfl, hA10, hJ10, hK10⟩ := hcut
            clear ca cB hrow c0 c1 c2 c3 c4 c5 c6 c7 fz HA hJ hK
            obtain ⟨fn, tmps, assign, body, hy, hRd⟩ := hR (winsTo t q) (b4 :: B) (a, t) wc hJ10 (by show winsTo t q ++ [(a, t)] <+: wins m; rw [show ((a, t) : Nat × Nat) = (t - q, t) by simp; omega, ← winsTo_succ]; exact winsTo_prefix hlt (by omega))
            unfold winEnc waysA at hy
            rw [show t + 1 - a = q + 1 by omega] at hy
            obtain ⟨c0, c1, c2, c3, c4, c5, c6, c7⟩ := arr8 hA10
            gi_wp2
            refine ⟨rfl, hRd.mono ?_⟩
            rintro e W4 (⟨rfl, hJ4, hk4⟩ | ⟨rfl, hJx4⟩)
            · clear c0 c1 c2 c3 c4 c5 c6 c7 hy hRd
              gi_wp2
              go_roundw
              case rel => exact ⟨q + 1, a - 1, by omega, rfl, Lib.hid (by omega), by rw [winsTo_succ, show t - q = a by omega]; exact hJ4, by rw [show t + 1 - (q + 1) = a by omega]; exact hk4.arr hA10 (by simp), hK10.kp hk4⟩
              case measure => simp [intOf]
            · gi_wp2
              refine bodyPost_ret (results_none rfl _ _ _) rfl ?_
              exact ⟨⟨_, rfl⟩, .inr ⟨_, by rw [show ((a, t) : Nat × Nat) = (t - q, t) by simp; omega, ← winsTo_succ]; exact winsTo_prefix hlt (by omega), hJx4⟩⟩
        · obtain rfl : z = -1 := by have := hz.out; omega
          obtain rfl : q = t + 1 := by omega
          rw [winsTo_full] at hJ
          gi_wp2
          go_roundw
          case rel => exact ⟨t + 1, _, by omega, by go_num, hJ, hK⟩
          case measure => simp [intOf]; omega
    · obtain rfl : t = m := by omega
      gi_wp2
      go_end0
      exact ⟨⟨_, rfl⟩, .inl ⟨_, _, rfl, hJ⟩⟩
end Go.Proofs.Ytdaapkbgfabmaaa
