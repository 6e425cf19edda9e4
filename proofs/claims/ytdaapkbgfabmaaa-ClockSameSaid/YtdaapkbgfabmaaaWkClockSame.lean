/- The walk of the law ClockSame: clocks that go on alike are fair, with whatever drift; one that stands while another one goes on by more than the slack is not; no condition. -/
import Derived.Test.YtdaapkbgfabmaaaFair5
import Derived.BigRegion
import Derived.Deep.DeepCutAuto
namespace Go.Proofs.Ytdaapkbgfabmaaa
open Go.RowKit
set_option linter.unusedVariables false
set_option linter.unusedSimpArgs false
attribute [local go_sem ↓] Go.wp_at_zero Go.wp_at_succ

theorem sl_info_ints : (Try.prog.info? 31).map (fun i => (i.zero, i.size, i.bytes)) = some (some (.slice none 0 0), 1, 24) := by kernel_rfl

/-- A row of three ints, at a block of its own. -/
structure RowB (base : Nat) (w : World) (v : Value) (x : Nat → Int) : Prop where
  ex : ∃ r, v = .slice (some ⟨r, 0, none⟩) 3 3 ∧ base ≤ r ∧ w.heap[r]? = some (.cells #[.int .i64 (x 0), .int .i64 (x 1), .int .i64 (x 2)] 3 (0, 0))
/-- n rows of three, in a slice of one's own. -/
structure RowsB (base : Nat) (w : World) (v : Value) (n : Nat) (x : Nat → Nat → Int) : Prop where
  ex : ∃ vs, w.ownsRow base 31 1 v n vs ∧ ∀ i, i < n → RowB base w (vs.getD i undef) (x i)
theorem RowB.mod {base : Nat} {w w' : World} {v : Value} {x : Nat → Int} {S : List Nat} (h : RowB base w v x) (m : Mod S w w') (hs : ∀ s, s ∈ S → ∀ cs T, w.heap[s]? = some (.cells cs T (0, 0)) → T ≠ 3) : RowB base w' v x := by
  obtain ⟨r, e, hb, hr⟩ := h.ex
  exact ⟨r, e, hb, m.heap hr (fun hm => hs r hm _ _ hr rfl)⟩
theorem RowsB.mod {base : Nat} {w w' : World} {v : Value} {n : Nat} {x : Nat → Nat → Int} (h : RowsB base w v n x) (m : Mod [] w w') : RowsB base w' v n x := by
  obtain ⟨vs, h1, h2⟩ := h.ex
  exact ⟨vs, own_mod h1 m (by simp), fun i hi => (h2 i hi).mod m (by simp)⟩
theorem RowsB.ticks {base : Nat} {w : World} {v : Value} {n : Nat} {x : Nat → Nat → Int} (h : RowsB base w v n x) : Ticks w v n (fun _ => 3) x := by
  obtain ⟨vs, h1, h2⟩ := h.ex
  obtain ⟨A, cap, rfl, hn, hc, hx⟩ := (own_slA h1).ex
  refine ⟨A, cap, fun i => vs.getD i undef, rfl, hn, hc, fun h0 => ?_, fun i hi => ?_⟩
  · obtain ⟨b, off, rfl, hb⟩ := hx h0
    exact ⟨b, off, rfl, fun i hi => by have := hb i 0 hi (by omega); simpa using this⟩
  · obtain ⟨r, e, _, hr⟩ := (h2 i hi).ex
    refine ⟨_, _, e, Nat.le_refl _, by unfold maxLen; omega, fun _ => ⟨r, 0, rfl, fun j hj => ?_⟩⟩
    match j, hj with
    | 0, _ | 1, _ | 2, _ => simp [World.cell?, hr]
theorem own_type {w : World} {base e size n : Nat} {v : Value} {xs : List Value} (h : w.ownsRow base e size v n xs) : ∀ s, s ∈ v.ownBlock.toList → ∀ cs T, w.heap[s]? = some (.cells cs T (0, 0)) → T = e := by
  obtain ⟨_, h2 | ⟨g, cap, cur, rfl, hg, hh, _⟩⟩ := h
  · rw [h2.1]; simp [Value.ownBlock]
  · intro s hs cs T hc
    simp [Value.ownBlock] at hs
    subst hs
    rw [hh] at hc
    simp at hc
    exact hc.2.symm

/-- A row more is appended. -/
theorem app_rowB {ops : Array Oper} {rest : List Oper} {o : Oper} {a : Act} {Q : Exit → Act → World → Prop} {w : World} (base : Nat) (hgd : o.guard = none) (s y : Operand)
    (ho : o.op = .call { callee := .builtin .append, args := #[s, y], argTypes := #[40, 40] })
    (v : Value) (n : Nat) (x : Nat → Nat → Int) (hs : a.eval s = v) (hown : RowsB base w v n x) (g0 : Nat) (rv : Value) (z : Nat → Int) (hy : a.eval y = .slice (some ⟨g0, 0, none⟩) 1 1)
    (hc : w.cell? ⟨g0, 0, none⟩ = some rv) (hrow : RowB base w rv z) (hn : n ≤ 1000) (hbase : base ≤ w.heap.size)
    (h : ∀ v' w', RowsB base w' v' (n + 1) (fun i => if i < n then x i else z) → (∀ s, s ∈ v.ownBlock.toList → base ≤ s) → Mod v.ownBlock.toList w w' → (∃ A c, v' = .slice A (n + 1) c) → wpList Try.prog ops Q rest (a.put o.dst v') w') :
    wpList Try.prog ops Q (o :: rest) a w := by
  obtain ⟨vs, h1, h2⟩ := hown.ex
  obtain ⟨r, er, hb, hr⟩ := hrow.ex
  refine app1 base 40 31 _ 1 24 Try.underlying40 sl_info_ints rfl (by omega) (by omega) hgd s y ho v n vs hs h1 g0 [rv] hy rfl (news1 hc) (by intro u hu; rw [List.mem_singleton.1 hu, er]; rfl) (by omega) hbase ?_
  intro g cap w' q1 q2 q3 q4
  have hl : vs.length = n := by have := h1.1; simpa using this
  refine h _ _ ⟨vs ++ [rv], q1, fun i hi => ?_⟩ (fun s hs => by
    cases hv : v.ownBlock with
    | none => rw [hv] at hs; simp at hs
    | some k => rw [hv] at hs; simp at hs; subst hs; exact (own_lt' h1 _ hv).1) q2 ⟨_, _, rfl⟩
  have ht : ∀ s, s ∈ v.ownBlock.toList → ∀ cs T, w.heap[s]? = some (.cells cs T (0, 0)) → T ≠ 3 := fun s hs cs T hh => by rw [own_type h1 s hs cs T hh]; decide
  by_cases e : i < n
  · have e1 : (vs ++ [rv]).getD i undef = vs.getD i undef := by simp only [List.getD_eq_getElem?_getD, List.getElem?_append_left (show i < vs.length by omega)]
    rw [if_pos e, e1]
    exact (h2 i e).mod q2 ht
  · obtain rfl : i = n := by omega
    have e1 : (vs ++ [rv]).getD i undef = rv := by simp only [List.getD_eq_getElem?_getD, List.getElem?_append_right (show vs.length ≤ i by omega), hl]; simp
    rw [if_neg e, e1]
    exact hrow.mod q2 ht

theorem same_fair {rw : Nat → Nat → Int} {N m : Nat} {num slack : Int} (hw : RwOk rw) (hN : ∀ i, i < m → ∀ j k, j < N → k < N → rw i j = rw i k) (h0 : 0 ≤ num) (h1 : 0 ≤ slack) :
    ∀ t a, t < m → a ≤ t → badB rw N num slack a t = false := by
  intro t a ht ha
  rw [badB_no]
  rintro ⟨i, j, hi, hj, h⟩
  have e : sumW rw a (t + 1 - a) i = sumW rw a (t + 1 - a) j := by
    have key : ∀ n, a + n ≤ m → sumW rw a n i = sumW rw a n j := by
      intro n
      induction n with
      | zero => intro _; rfl
      | succ n ih => intro hn; simp only [sumW]; rw [ih (by omega), hN (a + n) (by omega) i j hi hj]
    exact key _ (by omega)
  have hb := (sumW_bd hw a j (t + 1 - a)).1
  rw [e] at h
  have h2 : 0 ≤ num * sumW rw a (t + 1 - a) j := Int.mul_nonneg h0 hb
  rw [Int.add_mul] at h
  omega

theorem odd_first (wy : Nat → Int) (k : Nat) (num slack : Int) (h0 : 0 ≤ slack) (h1 : slack ≤ 255) :
    FairIs (badB (rwOf (fun _ => 3) (fun i => if i < k then (fun (_ : Nat) => wy i) else (fun j => if j = 0 then 1 + slack else 0))) (max 1 (min (3 : Int) 8)).toNat (clampV num 1000) (clampV slack 1048576)) (k + 1) k k false := by
  have hn := clampV_bd num 1000 (by omega)
  have hs : clampV slack 1048576 = slack := by unfold clampV; omega
  rw [show (max 1 (min (3 : Int) 8)).toNat = 3 by decide, hs]
  have hw := rwOf_ok (fun _ => 3) (fun i => if i < k then (fun (_ : Nat) => wy i) else (fun j => if j = 0 then 1 + slack else 0))
  have hsame := same_fair (N := 3) (m := k) (num := clampV num 1000) (slack := slack) hw (fun i hi j q hj hq => by
    unfold rwOf
    rw [if_pos (show j < 3 by omega), if_pos (show q < 3 by omega)]
    simp only [if_pos hi]) hn.1 h0
  refine .inr ⟨k, k, by omega, Nat.le_refl _, badB_yes.2 ⟨0, 1, by omega, by omega, ?_⟩, rfl, rfl, rfl, fun t' a' ht ha => hsame t' a' ht ha, fun a' h1 h2 => absurd h1 (by omega)⟩
  have e : k + 1 - k = 1 := by omega
  rw [e]
  have c1 : clampV (1 + slack) 1048576 = 1 + slack := by unfold clampV; omega
  have c0 : clampV 0 1048576 = 0 := by unfold clampV; omega
  simp [sumW, rwOf, c1, c0]
  omega

set_option maxRecDepth 100000 in
set_option maxHeartbeats 4000000 in
theorem clockSame_walk (W : World) (v0 : Value) (c0 : CellOk W (.sl [.int .u8]) v0)
    (a1 : Int) (w1 : (Lit.int .u8 a1).wf = true)
    (a2 : Int) (w2 : (Lit.int .u8 a2).wf = true)
    (a3 : Int) (w3 : (Lit.int .u8 a3).wf = true) :
    Calls Try.prog 8 #[v0, .int .u8 a1, .int .u8 a2, .int .u8 a3] W fun e w' => e = .returned (.bool true) ∧ Below W.heap.size W w' := by
  obtain ⟨n, f, hA, hf⟩ := c0.slA (by simp)
  obtain ⟨A, cap0, rfl, hn, hcap, hcell⟩ := hA.ex
  have hcap' : cap0 ≤ 9223372036854775807 := by unfold maxLen at hcap; omega
  obtain ⟨b10, b11⟩ := bd_u8 w1
  obtain ⟨b20, b21⟩ := bd_u8 w2
  obtain ⟨b30, b31⟩ := bd_u8 w3
  have mk := Lib.hid marg10
  clear hcap c0 hA w1 w2 w3
  by_cases h25 : 25 < n
  · have hi : (25 : Int) < (n : Int) := by omega
    go_enter Try.func8, Try.ntmps8
    go_wp2_with (go_at_call 14; refine (margin_calls _ _ _ _).mono ?_; rintro e w' ⟨rfl, rfl⟩; rw [mk.out])
    go_ret
    exact ⟨rfl, Below.refl _ _⟩
  have h5 : decide (25 < n) = false := by simpa using h25
  go_enter Try.func8, Try.ntmps8
  obtain ⟨wy, hwy⟩ : ∃ wy : Nat → Int, ∀ i, i < n → f i 0 = .int .u8 (wy i) ∧ 0 ≤ wy i ∧ wy i ≤ 255 := by
    refine ⟨fun i => match f i 0 with | .int _ z => z | _ => 0, fun i hi => ?_⟩
    obtain ⟨z, e, q⟩ := (hf i 0 _ hi rfl).int_inv
    have hh := bd_u8 q
    simp only [e]
    first | exact hh | exact ⟨trivial, hh⟩
  have Hwy := Lib.hid hwy
  have R0 : RowsB W.heap.size (W.alloc (.cells #[] 31)) (.slice (some ⟨W.heap.size, 0, none⟩) 0 0) 0 (fun i _ => wy i) :=
    ⟨[], ⟨by simp, .inr ⟨W.heap.size, 0, #[], rfl, Nat.le_refl _, World.alloc_heap_new _ _, Nat.le_refl _, Nat.zero_le _, rfl, rfl⟩⟩, fun i hi => absurd hi (by omega)⟩
  have B0 : Below W.heap.size W (W.alloc (.cells #[] 31)) := (Below.refl _ _).alloc (Nat.le_refl _) _
  clear hwy hf
  go_wp2
  go_loopw [9, 10, 11] (fun v i _ wr => ∃ k : Nat, k ≤ n ∧ i = .int .i64 k ∧ RowsB W.heap.size wr v k (fun i _ => wy i) ∧ Below W.heap.size W wr ∧ ∃ A c, v = .slice A k c) (fun _ i _ _ => n - (intOf i).toNat)
  case atStart => exact ⟨0, Nat.zero_le _, rfl, R0, B0, _, _, rfl⟩
  case round =>
    obtain ⟨k, hk, rfl, hR, hB, A9, c9, rfl⟩ := hrel
    clear R0 B0
    by_cases hlt : k < n
    · obtain ⟨bl, off, rfl, hx⟩ := hcell (by omega)
      have y0 := hx k 0 hlt (by simp)
      obtain ⟨e0, z0, z1⟩ := Hwy.out k hlt
      rw [e0] at y0
      simp only [List.length_cons, List.length_nil, Nat.zero_add, Nat.reduceAdd, Nat.add_zero, Nat.mul_one] at y0
      have hbl : bl < W.heap.size := World.block_lt_of_cell? W _ y0
      replace y0 := (hB.cell (p := ⟨bl, _, none⟩) hbl).trans y0
      have i0 : (0 : Int) ≤ (k : Int) := by omega
      have i1 : (k : Int) < (n : Int) := by omega
      generalize hz : wy k = z at *
      have HZ := Lib.hid hz
      clear hx hcell e0 hz
      go_wp2_with fail
      have hm : Mod [] wr ((wr.alloc (.cells #[.int .i64 z, .int .i64 z, .int .i64 z] 3)).alloc (.cells #[.slice (some ⟨wr.heap.size, 0, none⟩) 3 3] 31)).drew := (((Mod.refl _ _).alloc _).alloc _).drew
      have hR1 := Lib.hid (hR.mod hm)
      have hr1 : RowB W.heap.size ((wr.alloc (.cells #[.int .i64 z, .int .i64 z, .int .i64 z] 3)).alloc (.cells #[.slice (some ⟨wr.heap.size, 0, none⟩) 3 3] 31)).drew (.slice (some ⟨wr.heap.size, 0, none⟩) 3 3) (fun _ => z) :=
        ⟨wr.heap.size, rfl, hB.size, heap_alloc2_old wr _ _⟩
      have Hr1 := Lib.hid hr1
      have hc1 : ((wr.alloc (.cells #[.int .i64 z, .int .i64 z, .int .i64 z] 3)).alloc (.cells #[.slice (some ⟨wr.heap.size, 0, none⟩) 3 3] 31)).drew.cell? ⟨wr.heap.size + 1, 0, none⟩ = some (.slice (some ⟨wr.heap.size, 0, none⟩) 3 3) := by simp
      have Hc1 := Lib.hid hc1
      have hBs := hB.size
      have HB := Lib.hid (below_mod hB hm hB.size (by simp))
      clear hm hr1 hc1 hR hB
      go_region
      go_wp2_with (at_builtin; refine app_rowB W.heap.size rfl _ _ rfl (.slice A9 k c9) k _ rfl hR1.out (wr.heap.size + 1) _ _ rfl Hc1.out Hr1.out (by omega) (by simp; omega) ?_; rintro v' w' hR2 hv2 hm2 ⟨A', c', rfl⟩)
      go_roundw
      case rel =>
        obtain ⟨vs, q1, q2⟩ := hR2.ex
        refine ⟨k + 1, by omega, by go_num, ⟨vs, q1, fun i hi => ?_⟩, below_mod HB.out hm2 (by simp; omega) hv2, _, _, rfl⟩
        have := q2 i hi
        by_cases e : i < k
        · simpa only [if_pos e] using this
        · obtain rfl : i = k := by omega
          simpa only [if_neg e, HZ.out] using this
      case measure => simp [intOf]; omega
    · obtain ⟨N, hN, hN1, hN3⟩ : ∃ N : Nat, 1 + a3 % 3 = (N : Int) ∧ 1 ≤ N ∧ N ≤ 3 := ⟨(1 + a3 % 3).toNat, by omega, by omega, by omega⟩
      obtain rfl : k = n := by omega
      have hT := hR.ticks
      have hwR := rwOf_ok (fun _ => 3) (fun i (_ : Nat) => wy i)
      have hC1 := clampV_bd a1 1000 (by omega)
      have hC2 := clampV_bd a2 1048576 (by omega)
      have hsame := Lib.hid (same_fair (N := N) (m := k) (num := clampV a1 1000) (slack := clampV a2 1048576) hwR (fun i _ j q hj hq => by unfold rwOf; rw [if_pos (show j < 3 by omega), if_pos (show q < 3 by omega)]) hC1.1 hC2.1)
      have hBs := hB.size
      clear hwR hC1 hC2 hcell
      go_wp2_with fail
      refine (fair_calls _ _ k _ _ hT (by omega) _ _ _).mono ?_
      rintro e w3 ⟨⟨u1, u2, u3, rfl, hF3⟩, m3⟩
      rw [show max 1 (min (N : Int) 8) = (N : Int) by omega, Int.toNat_natCast] at hF3
      obtain rfl : u3 = true := hF3.fair.2 hsame.out
      have hR3 := hR.mod m3
      have hB3 := below_mod hB m3 hBs (by simp)
      clear hF3 hT hR hB hN
      have hm : Mod [] w3 ((w3.alloc (.cells #[.int .i64 (1 + a2), .int .i64 0, .int .i64 0] 3)).alloc (.cells #[.slice (some ⟨w3.heap.size, 0, none⟩) 3 3] 31)) := (((Mod.refl _ _).alloc _).alloc _)
      have hR1 := Lib.hid (hR3.mod hm)
      have hr1 : RowB W.heap.size ((w3.alloc (.cells #[.int .i64 (1 + a2), .int .i64 0, .int .i64 0] 3)).alloc (.cells #[.slice (some ⟨w3.heap.size, 0, none⟩) 3 3] 31)) (.slice (some ⟨w3.heap.size, 0, none⟩) 3 3) (fun j => if j = 0 then 1 + a2 else 0) :=
        ⟨w3.heap.size, rfl, hB3.size, heap_alloc2_old w3 _ _⟩
      have Hr1 := Lib.hid hr1
      have hc1 : ((w3.alloc (.cells #[.int .i64 (1 + a2), .int .i64 0, .int .i64 0] 3)).alloc (.cells #[.slice (some ⟨w3.heap.size, 0, none⟩) 3 3] 31)).cell? ⟨w3.heap.size + 1, 0, none⟩ = some (.slice (some ⟨w3.heap.size, 0, none⟩) 3 3) := by simp
      have Hc1 := Lib.hid hc1
      have hBs3 := hB3.size
      have HB := Lib.hid (below_mod hB3 hm hB3.size (by simp))
      clear hm hr1 hc1 hR3 hB3
      go_wp2_with (at_builtin; refine app_rowB W.heap.size rfl _ _ rfl (.slice A9 k c9) k _ rfl hR1.out (w3.heap.size + 1) _ _ rfl Hc1.out Hr1.out (by omega) (by simp; omega) ?_; rintro v' w4 hR2 hv2 hm2 ⟨A', c', rfl⟩)
      have hT4 := hR2.ticks
      have hFI := Lib.hid (odd_first wy k a1 a2 b20 b21)
      have hB4 := below_mod HB.out hm2 (by simp; omega) hv2
      clear hR2 hm2 hv2 hsame
      go_wp2_with fail
      refine (fair_calls _ _ (k + 1) _ _ hT4 (by omega) _ _ _).mono ?_
      rintro e w5 ⟨⟨u4, u5, u6, rfl, hF5⟩, m5⟩
      have hT5 := hT4.under (m5.under (Nat.le_refl _) (by simp))
      obtain ⟨rfl, rfl, rfl⟩ := hF5.eq hFI.out
      have hB5 := below_mod hB4 m5 hB4.size (by simp)
      clear hF5 hT4 m5 hB4
      go_wp2_with fail
      refine (rfair_calls _ _ (k + 1) _ _ hT5 (by omega) _ _ _).mono ?_
      rintro e w6 ⟨⟨u7, u8, u9, rfl, hF6⟩, rfl⟩
      obtain ⟨rfl, rfl, rfl⟩ := hF6.eq hFI.out
      clear hF6 hT5
      have HB5 := Lib.hid hB5
      clear hB5
      go_wp2_with (go_at_call 14; refine (margin_calls _ _ _ _).mono ?_; rintro e w' ⟨rfl, rfl⟩; rw [mk.out])
      go_ret
      exact ⟨rfl, HB5.out⟩
end Go.Proofs.Ytdaapkbgfabmaaa
