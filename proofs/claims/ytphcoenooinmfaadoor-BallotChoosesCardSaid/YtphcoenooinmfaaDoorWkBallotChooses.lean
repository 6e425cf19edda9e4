/- The walk of the law BallotChooses: of any votes the one that is to be chosen is the document's, of the highest ballot of that slot. Premises: the listed variables are as laid. -/
import Derived.Test.YtphcoenooinmfaaDoorBal3
import Derived.Test.YtphcoenooinmfaaDoorErr
import Derived.Test.YtphcoenooinmfaaDoorRow
namespace Go.Proofs.YtphcoenooinmfaaDoor
open Go.RowKit
set_option linter.unusedVariables false
set_option linter.unusedSimpArgs false
attribute [local go_sem ↓] Go.wp_at_zero Go.wp_at_succ

theorem list_choose {α : Type} (d : α) : ∀ (n : Nat) (P : Nat → α → Prop), (∀ i, i < n → ∃ x, P i x) → ∃ L : List α, L.length = n ∧ ∀ i, i < n → P i (L.getD i d) := by
  intro n
  induction n with
  | zero => intro P _; exact ⟨[], rfl, fun i hi => absurd hi (by omega)⟩
  | succ n ih =>
    intro P h
    obtain ⟨L, hl, hL⟩ := ih P (fun i hi => h i (by omega))
    obtain ⟨x, hx⟩ := h n (by omega)
    refine ⟨L ++ [x], by simp [hl], fun i hi => ?_⟩
    by_cases e : i = n
    · subst e
      rw [List.getD_eq_getElem?_getD, List.getElem?_append_right (by omega), hl]
      simpa using hx
    · have := hL i (by omega)
      rw [List.getD_eq_getElem?_getD, List.getElem?_append_left (by omega)]
      rw [List.getD_eq_getElem?_getD] at this
      exact this
theorem votes_inv {W : World} {v : Value} (c : CellOk W (.sl [.int .i64, .int .i64, .str]) v) : ∃ L, Vs W v L := by
  obtain ⟨n, f, hA, hf⟩ := c.slA (by simp)
  obtain ⟨L, hl, hL⟩ := list_choose VoteT.zero n (fun i x => f i 0 = .int .i64 x.s ∧ f i 1 = .int .i64 x.b ∧ f i 2 = .string x.v) (fun i hi => by
    obtain ⟨z0, e0, _⟩ := (hf i 0 _ hi rfl).int_inv
    obtain ⟨z1, e1, _⟩ := (hf i 1 _ hi rfl).int_inv
    obtain ⟨s, e2, _⟩ := (hf i 2 _ hi rfl).str_inv
    exact ⟨⟨z0, z1, s⟩, e0, e1, e2⟩)
  refine ⟨L, ?_⟩
  unfold Vs
  rw [hl]
  refine hA.congr fun i j hi hj => ?_
  obtain ⟨h0, h1, h2⟩ := hL i hi
  unfold vF VoteT.cF
  match j, hj with
  | 0, _ => exact h0
  | 1, _ => exact h1
  | 2, _ => exact h2
theorem sets_inv {W : World} {v : Value} (c : CellOk W (.sl [.sl [.int .i64, .int .i64, .str]]) v) : ∃ LL, Sets W v LL := by
  obtain ⟨n, f, hA, hf⟩ := c.slA (by simp)
  obtain ⟨LL, hl, hL⟩ := list_choose ([] : List VoteT) n (fun i L => Vs W (f i 0) L) (fun i hi => votes_inv (hf i 0 _ hi rfl))
  refine ⟨LL, fun i => f i 0, ?_, fun i hi => hL i (by omega)⟩
  rw [hl]
  exact hA.congr fun i j hi hj => by
    obtain rfl : j = 0 := by simpa using hj
    rfl
theorem Sets.mod {w w' : World} {v : Value} {LL : List (List VoteT)} (h : Sets w v LL) (m : Mod [] w w') : Sets w' v LL := by
  obtain ⟨iv, h1, h2⟩ := h
  exact ⟨iv, h1.mod (m.below (Nat.le_refl _) (by simp)), fun i hi => (h2 i hi).mod m⟩
/-- The copies, row by row. -/
def Rows2 (w : World) (base : Nat) (u : Value) (LL : List (List VoteT)) : Prop :=
  ∃ ivs : List Value, ivs.length = LL.length ∧ w.ownsRow base 34 1 u LL.length ivs ∧ ∀ q, q < LL.length → w.ownsRow base 38 3 (ivs.getD q undef) (LL.getD q []).length (vcells (LL.getD q []))
theorem Rows2.sets {w : World} {base : Nat} {u : Value} {LL : List (List VoteT)} (h : Rows2 w base u LL) : Sets w u LL := by
  obtain ⟨ivs, hl, ho, hq⟩ := h
  refine ⟨fun i => ivs.getD i undef, ?_, fun i hi => row_vs (hq i hi)⟩
  exact (own_slA ho).congr fun i j hi hj => by
    obtain rfl : j = 0 := by simpa using hj
    simp
theorem Rows2.mod {w w' : World} {base : Nat} {u : Value} {LL : List (List VoteT)} (h : Rows2 w base u LL) (m : Mod [] w w') : Rows2 w' base u LL := by
  obtain ⟨ivs, hl, ho, hq⟩ := h
  exact ⟨ivs, hl, own_mod ho m (by simp), fun q hq' => own_mod (hq q hq') m (by simp)⟩
theorem Rows2.app {w w' : World} {base : Nat} {u u' vl : Value} {LL : List (List VoteT)} {L : List VoteT} {ivs : List Value} (hl : ivs.length = LL.length) (ho0 : w.ownsRow base 34 1 u LL.length ivs)
    (hq : ∀ q, q < LL.length → w.ownsRow base 38 3 (ivs.getD q undef) (LL.getD q []).length (vcells (LL.getD q []))) (hL : w.ownsRow base 38 3 vl L.length (vcells L))
    (ho : w'.ownsRow base 34 1 u' (LL.length + 1) (ivs ++ [vl])) (m : Mod u.ownBlock.toList w w') : Rows2 w' base u' (LL ++ [L]) := by
  refine ⟨ivs ++ [vl], by simp [hl], by simpa using ho, fun q hq' => ?_⟩
  by_cases e : q < LL.length
  · rw [List.getD_eq_getElem?_getD, List.getElem?_append_left (by omega), ← List.getD_eq_getElem?_getD]
    rw [show (LL ++ [L]).getD q [] = LL.getD q [] by rw [List.getD_eq_getElem?_getD, List.getElem?_append_left e, ← List.getD_eq_getElem?_getD]]
    exact own_mod (hq q e) m (own_apart (hq q e) ho0 (by decide))
  · have e2 : q = LL.length := by simp at hq'; omega
    subst e2
    rw [show (ivs ++ [vl]).getD LL.length undef = vl by rw [← hl, List.getD_eq_getElem?_getD, List.getElem?_append_right (Nat.le_refl _)]; simp]
    rw [show (LL ++ [L]).getD LL.length [] = L by rw [List.getD_eq_getElem?_getD, List.getElem?_append_right (Nat.le_refl _)]; simp]
    exact own_mod hL m (own_apart hL ho0 (by decide))
theorem rows_info : (Tryd.prog.info? 34).map (fun i => (i.zero, i.size, i.bytes)) = some (some (.slice none 0 0), 1, 24) := by kernel_rfl
theorem takeLL (LL : List (List VoteT)) (i : Nat) (hi : i < LL.length) : LL.take i ++ [LL.getD i []] = LL.take (i + 1) := by
  rw [List.take_succ_eq_append_getElem hi, List.getD_eq_getElem?_getD, List.getElem?_eq_getElem hi]
  rfl
/-- What holds behind i sets that were looked at. -/
structure ChLoop (W wr : World) (LL : List (List VoteT)) (u : Value) (i : Nat) : Prop where
  rows : Rows2 wr W.heap.size u (LL.take i)
  m : Mod [] W wr
  len : ∀ q, q < i → (LL.getD q []).length ≤ 30
  pos : ∀ q k, q < i → k < (LL.getD q []).length → 1 ≤ ((LL.getD q []).getD k VoteT.zero).b
set_option maxRecDepth 100000 in
set_option maxHeartbeats 4000000 in
theorem ballotChooses_walk (W : World) (t0 : Steps W) (t1 : ErrT W) (v0 : Value) (c0 : CellOk W (.sl [.sl [.int .i64, .int .i64, .str]]) v0)
    (a1 : Int) (w1 : (Lit.int .i64 a1).wf = true) :
    Calls Tryd.prog 4 #[v0, .int .i64 a1] W fun e w' => e = .returned (.bool true) ∧ Below W.heap.size W w' := by
  obtain ⟨LL, hS⟩ := sets_inv c0
  clear c0 t1 w1
  have HS := Lib.hid hS
  obtain ⟨iv, hv, hi9⟩ := hS
  obtain ⟨A, cap, rfl, hc, hm, hx⟩ := hv.ex
  have hcap : cap ≤ 9223372036854775807 := by unfold maxLen at hm; omega
  have HX := Lib.hid hx
  have HI := Lib.hid hi9
  have T0 := Lib.hid t0
  have SH := fun w (h : Mod [] W w) => Lib.hid (shown10_calls w (t0.mod h (by simp)))
  have SH0 := SH W (Mod.refl _ _)
  have HSH := Lib.hid SH
  clear hx hv hi9 hm t0 SH
  go_enter Tryd.func4, Tryd.ntmps4
  by_cases hbig : 10 < LL.length
  · have hi : (10 : Int) < (LL.length : Int) := by omega
    go_wp2_with fail
    refine SH0.out.mono ?_
    rintro e w1 ⟨rfl, m1⟩
    have M1 := Lib.hid m1
    clear m1
    go_wp2
    go_ret
    exact ⟨rfl, M1.out.below (Nat.le_refl _) (by simp)⟩
  have hi : ¬ (10 : Int) < (LL.length : Int) := by omega
  go_wp2_with fail
  refine SH0.out.mono ?_
  rintro e w1 ⟨rfl, m1⟩
  obtain ⟨w2, hw2⟩ : ∃ w2, w2 = w1.alloc (.cells #[] 34) := ⟨_, rfl⟩
  have m2 : Mod [] W w2 := by rw [hw2]; exact m1.alloc _
  have C0 : ChLoop W w2 LL (.slice (some ⟨w1.heap.size, 0, none⟩) 0 0) 0 := ⟨⟨[], rfl, by rw [hw2]; exact own_empty w1 _ _ _ m1.size, fun q hq => absurd hq (by simp)⟩, m2, fun q hq => absurd hq (by omega), fun q k hq => absurd hq (by omega)⟩
  have HC0 := Lib.hid C0
  have HW2 := Lib.hid hw2
  clear m1 hw2 m2 C0
  go_wp2
  rw [← HW2.out]
  go_loopw [5, 6] (fun u i wr => ∃ (j : Nat) (u' : Value), u = u' ∧ j ≤ LL.length ∧ i = .int .i64 j ∧ ChLoop W wr LL u' j) (fun _ i _ => LL.length - (intOf i).toNat)
  case atStart => exact ⟨0, _, rfl, Nat.zero_le _, rfl, HC0.out⟩
  case round =>
    obtain ⟨j, u', rfl, hj, rfl, hC⟩ := hrel
    clear HC0
    have HC := Lib.hid hC
    clear hC
    by_cases hlt : j < LL.length
    · have i0 : (0 : Int) ≤ (j : Int) := by omega
      have i1 : (j : Int) < (LL.length : Int) := by omega
      obtain ⟨bb, off, rfl, hcell⟩ := HX.out (by omega)
      have x0 := hcell j 0 hlt (by omega)
      simp only [Nat.mul_one, Nat.add_zero] at x0
      have hVs := HI.out j hlt
      obtain ⟨A2, cap2, he2, hc2, hm2, hx2⟩ := SlA.ex hVs
      have hcap2 : cap2 ≤ 9223372036854775807 := by unfold maxLen at hm2; omega
      rw [he2] at x0 hVs
      have x9 := HC.out.m.cell' x0 (by simp)
      have HX2 := Lib.hid hx2
      obtain ⟨L2, hL2⟩ : ∃ L2, L2 = LL.getD j [] := ⟨_, rfl⟩
      rw [← hL2] at x9 HX2 hc2 hVs
      have HLL := Lib.hid hL2
      have HVS := Lib.hid hVs
      have SHj := HSH.out wr HC.out.m
      clear he2 hm2 hx2 x0 hcell hL2 hVs
      by_cases h30 : 30 < L2.length
      · have g30 : (30 : Int) < (L2.length : Int) := by omega
        go_wp2_with fail
        refine SHj.out.mono ?_
        rintro e w3 ⟨rfl, m3⟩
        have M3 := Lib.hid (HC.out.m.trans m3)
        clear m3
        go_wp2
        go_ret
        exact ⟨rfl, M3.out.below (Nat.le_refl _) (by simp)⟩
      have g30 : ¬ (30 : Int) < (L2.length : Int) := by omega
      obtain ⟨wo, hwo⟩ : ∃ wo, wo = wr := ⟨_, rfl⟩
      rw [← hwo] at HC x9 SHj ⊢
      clear hwo
      go_wp2
      go_loopw [7] (fun i wr => ∃ k : Nat, k ≤ L2.length ∧ i = .int .i64 k ∧ wr = wo ∧ ∀ q, q < k → 1 ≤ (L2.getD q VoteT.zero).b) (fun i _ => L2.length - (intOf i).toNat)
      case atStart => exact ⟨0, Nat.zero_le _, rfl, rfl, fun q hq => absurd hq (by omega)⟩
      case round =>
        obtain ⟨k, hk, rfl, rfl, hpos⟩ := hrel
        have HP := Lib.hid hpos
        clear hpos
        by_cases hkl : k < L2.length
        · have j0 : (0 : Int) ≤ (k : Int) := by omega
          have j1 : (k : Int) < (L2.length : Int) := by omega
          obtain ⟨b2, off2, rfl, hcell2⟩ := HX2.out (by omega)
          have y1 := HC.out.m.cell' (hcell2 k 1 hkl (by omega)) (by simp)
          unfold vF VoteT.cF at y1
          simp only [if_true, if_false, Nat.reduceEqDiff] at y1
          clear hcell2
          by_cases hb : (L2.getD k VoteT.zero).b < 1
          · generalize (L2.getD k VoteT.zero).b = xb at *
            go_wp2_with fail
            refine SHj.out.mono ?_
            rintro e w3 ⟨rfl, m3⟩
            have M3 := Lib.hid (HC.out.m.trans m3)
            clear m3
            go_wp2
            go_ret
            exact ⟨rfl, M3.out.below (Nat.le_refl _) (by simp)⟩
          · have HB9 := Lib.hid (show 1 ≤ (L2.getD k VoteT.zero).b by omega)
            obtain ⟨xb, hxb⟩ : ∃ xb, xb = (L2.getD k VoteT.zero).b := ⟨_, rfl⟩
            rw [← hxb] at y1 hb
            clear hxb
            go_wp2
            go_roundw
            case rel => exact ⟨k + 1, by omega, by go_num, trivial, fun q hq => by
              by_cases e : q = k
              · rw [e]; exact HB9.out
              · exact HP.out q (by omega)⟩
            case measure => simp [intOf]; omega
        · have j1 : ¬ (k : Int) < (L2.length : Int) := by omega
          obtain rfl : k = L2.length := by omega
          have TH := Lib.hid (theirs_calls wr _ L2 (HVS.out.mod HC.out.m) (by omega))
          go_wp2_with fail
          (with_reducible refine TH.out.mono ?_)
          rintro r w3 ⟨vl, rfl, ho3, m3⟩
          obtain ⟨A5, c5, rfl, _⟩ := (own_slA ho3).ex
          obtain ⟨ivs, g1, g2, g3⟩ := (HC.out.rows.mod m3)
          obtain ⟨wa, hwa⟩ : ∃ wa, wa = w3.alloc (.cells #[.slice A5 L2.length c5] 34) := ⟨_, rfl⟩
          have ma : Mod [] w3 wa := by rw [hwa]; exact (Mod.refl _ _).alloc _
          have ho9 := own_mod (own_base ho3 HC.out.m.size) ma (by simp)
          have hlt9 : (LL.take j).length = j := by rw [List.length_take]; omega
          have g2' := own_mod g2 ma (by simp)
          rw [hlt9] at g1 g2'
          have g3' : ∀ q, q < j → wa.ownsRow W.heap.size 38 3 (ivs.getD q undef) ((LL.take j).getD q []).length (vcells ((LL.take j).getD q [])) := fun q hq => own_mod (g3 q (by rw [hlt9]; exact hq)) ma (by simp)
          have HO := Lib.hid (And.intro ho9 (And.intro g2' (And.intro g3' g1)))
          have hoU := g2'
          have hn1 : wa.cell? ⟨w3.heap.size, 0, none⟩ = some (.slice A5 L2.length c5) := by rw [hwa]; exact new_cell1 w3 _ _ _ rfl
          have HMA := Lib.hid ((HC.out.m.trans m3).trans ma)
          have hwz : W.heap.size ≤ wa.heap.size := ((HC.out.m.trans m3).trans ma).size
          have HWA := Lib.hid hwa
          have HT := Lib.hid (takeLL LL j hlt)
          have hji : j ≤ 1000000 := by omega
          clear g1 g2 g3 ho9 g2' g3' hwa ma m3 ho3 x9
          go_wp2_with (
            at_builtin
            rw [← HWA.out]
            go_loud (refine app1 W.heap.size 30 34 (.slice none 0 0) 1 24 Tryd.underlying30 rows_info rfl (by omega) (by omega) rfl _ _ rfl u5 _ _ rfl hoU w3.heap.size [.slice A5 L2.length c5] rfl rfl (news1 hn1) (by simp [Value.oneCell']) hji hwz ?_)
            intro ga cap3 w9 ho10 m10 hg10 hb10
            have O10 := Lib.hid ho10
            have M10 := Lib.hid m10
            clear ho10 m10 hoU)
          go_roundw
          case rel =>
            refine ⟨j + 1, _, rfl, by omega, by go_num, ?_⟩
            obtain ⟨h1, h2, h3, h4⟩ := HO.out
            have hlt9 : (LL.take j).length = j := by rw [List.length_take]; omega
            refine ⟨?_, HMA.out.fresh M10.out (fun x hx => .inr (own_lt' h2 x (by simpa using hx)).1), ?_, ?_⟩
            · rw [← HT.out, ← HLL.out]
              refine Rows2.app (w := wa) (by rw [h4, hlt9]) (by rw [hlt9]; exact h2) (fun q hq => h3 q (by omega)) h1 (by rw [hlt9]; exact O10.out) M10.out
            · intro q hq
              by_cases e : q = j
              · rw [e, ← HLL.out]; omega
              · exact HC.out.len q (by omega)
            · intro q k' hq hk'
              by_cases e : q = j
              · subst e
                rw [← HLL.out] at hk' ⊢
                exact HP.out k' hk'
              · exact HC.out.pos q k' (by omega) hk'
          case measure => simp [intOf]; omega
    · have i1 : ¬ (j : Int) < (LL.length : Int) := by omega
      obtain rfl : j = LL.length := by omega
      have hRows := HC.out.rows
      rw [List.take_length] at hRows
      have HRows := Lib.hid hRows
      obtain ⟨R, hR⟩ : ∃ R, R = chAll a1 LL := ⟨_, rfl⟩
      have P1 := Lib.hid (choose_calls wr _ LL a1 (HS.out.mod HC.out.m) (by omega) (fun i hi => by have := HC.out.len i hi; omega))
      have P2 := fun w (h : Sets w u5 LL) => Lib.hid (rchoose_calls w u5 LL a1 h (by omega) (fun i hi => by have := HC.out.len i hi; omega) (fun i k hi hk => HC.out.pos i k hi hk))
      rw [← hR] at P1
      simp only [← hR] at P2
      have HMAX := Lib.hid (show ∀ i k, i < LL.length → k < (LL.getD i []).length → ((LL.getD i []).getD k VoteT.zero).s = a1 → ((LL.getD i []).getD k VoteT.zero).b ≤ R.b from fun i k hi hk hs => by rw [hR]; exact chFold_ge a1 LL VoteT.zero i k hi hk hs)
      obtain ⟨xs, xb, xv⟩ := R
      simp only at P1 P2 HMAX
      obtain ⟨dd, hdd⟩ : ∃ dd, dd = decide (0 < xb) := ⟨_, rfl⟩
      rw [← hdd] at P1
      simp only [← hdd] at P2
      have HDD := Lib.hid hdd
      clear hRows hR hdd
      go_wp2_with fail
      (with_reducible refine P1.out.mono ?_)
      rintro r w3 ⟨rfl, m3⟩
      obtain ⟨w4, hw4⟩ : ∃ w4, w4 = w3.alloc (.cells #[.int .i64 xs, .int .i64 xb, .string xv] 33) := ⟨_, rfl⟩
      have m4 : Mod [] w3 w4 := by rw [hw4]; exact (Mod.refl _ _).alloc _
      have B4 : Arr w4 w3.heap.size 33 3 (VoteT.cF ⟨xs, xb, xv⟩) := by rw [hw4]; exact vote_new w3 _ ⟨xs, xb, xv⟩
      have M4 := Lib.hid ((HC.out.m.trans m3).trans m4)
      have P3 := P2 w4 ((HRows.out.mod (m3.trans m4)).sets)
      obtain ⟨b8, hb8⟩ : ∃ b8, b8 = w3.heap.size := ⟨_, rfl⟩
      rw [← hb8] at B4
      have HB4 := Lib.hid B4
      have HW4 := Lib.hid hw4
      have HB8 := Lib.hid hb8
      clear m3 m4 B4 hw4 hb8 P2 P1
      go_wp2_with fail
      rw [← HW4.out, ← HB8.out]
      (with_reducible refine P3.out.mono ?_)
      rintro r w5 ⟨rfl, m5⟩
      obtain ⟨w6, hw6⟩ : ∃ w6, w6 = w5.alloc (.cells #[.int .i64 xs, .int .i64 xb, .string xv] 38) := ⟨_, rfl⟩
      have m6 : Mod [] w5 w6 := by rw [hw6]; exact (Mod.refl _ _).alloc _
      have B6 := HB4.out.mod (m5.trans m6) (by simp)
      have HB6 := Lib.hid B6
      have M6 := Lib.hid (M4.out.trans (m5.trans m6))
      have q0 := B6.cell 0 (by omega)
      have q1 := B6.cell 1 (by omega)
      have q2 := B6.cell 2 (by omega)
      unfold VoteT.cF at q0 q1 q2
      simp only [if_true, if_false, Nat.reduceEqDiff] at q0 q1 q2
      rw [hw6] at q0 q1 q2
      have HW6 := Lib.hid hw6
      clear m5 m6 B6 hw6 P3
      go_wp2
      rw [← HW6.out]
      clear q0 q1 q2
      go_loopw [12] (fun i wx => ∃ i' : Nat, i' ≤ LL.length ∧ i = .int .i64 i' ∧ Mod [] w6 wx) (fun i _ => LL.length - (intOf i).toNat)
      case atStart => exact ⟨0, Nat.zero_le _, rfl, Mod.refl _ _⟩
      case round =>
        obtain ⟨i', hi', rfl, hM⟩ := hrel
        by_cases hlt : i' < LL.length
        · have i0 : (0 : Int) ≤ (i' : Int) := by omega
          have i2 : (i' : Int) < (LL.length : Int) := by omega
          obtain ⟨bb, off, rfl, hcell⟩ := HX.out (by omega)
          have x0 := hcell i' 0 hlt (by omega)
          simp only [Nat.mul_one, Nat.add_zero] at x0
          have hVs := HI.out i' hlt
          obtain ⟨A2, cap2, he2, hc2, hm2, hx2⟩ := SlA.ex hVs
          have hcap2 : cap2 ≤ 9223372036854775807 := by unfold maxLen at hm2; omega
          rw [he2] at x0
          have HX0 := Lib.hid x0
          have HX2 := Lib.hid hx2
          have hl30 := HC.out.len i' hlt
          have hpos := HC.out.pos i'
          have hmax := HMAX.out i'
          obtain ⟨L2, hL2⟩ : ∃ L2, L2 = LL.getD i' [] := ⟨_, rfl⟩
          rw [← hL2] at HX0 HX2 hc2 hl30 hpos hmax
          have HPM := Lib.hid (And.intro (fun k hk => hpos k hlt hk) (fun k hk hs => hmax k hlt hk hs))
          have HM := Lib.hid hM
          clear he2 hm2 hx2 x0 hcell hL2 hVs hpos hmax hM
          go_wp2
          go_loopw [13] (fun i wx => ∃ k : Nat, k ≤ L2.length ∧ i = .int .i64 k ∧ Mod [] w6 wx) (fun i _ => L2.length - (intOf i).toNat)
          case atStart => exact ⟨0, Nat.zero_le _, rfl, HM.out⟩
          case round =>
            obtain ⟨k, hk, rfl, hM2⟩ := hrel
            have x9 := (M6.out.trans hM2).cell' HX0.out (by simp)
            by_cases hkl : k < L2.length
            · have j0 : (0 : Int) ≤ (k : Int) := by omega
              have j1 : (k : Int) < (L2.length : Int) := by omega
              obtain ⟨b2, off2, rfl, hcell2⟩ := HX2.out (by omega)
              have y0 := (M6.out.trans hM2).cell' (hcell2 k 0 hkl (by omega)) (by simp)
              have y1 := (M6.out.trans hM2).cell' (hcell2 k 1 hkl (by omega)) (by simp)
              unfold vF VoteT.cF at y0 y1
              simp only [if_true, if_false, Nat.reduceEqDiff, Nat.add_zero] at y0 y1
              have z1 := (HB6.out.mod hM2 (by simp)).cell 1 (by omega)
              unfold VoteT.cF at z1
              simp only [if_true, if_false, Nat.reduceEqDiff] at z1
              have h1 := HPM.out.1 k hkl
              have h2 := HPM.out.2 k hkl
              have HM2 := Lib.hid hM2.drew
              obtain ⟨vs, hvs⟩ : ∃ vs, vs = (L2.getD k VoteT.zero).s := ⟨_, rfl⟩
              obtain ⟨vb, hvb⟩ : ∃ vb, vb = (L2.getD k VoteT.zero).b := ⟨_, rfl⟩
              rw [← hvs] at y0 h2
              rw [← hvb] at y1 h1 h2
              clear hcell2 hvs hvb hM2
              by_cases hs : vs = a1
              · have h3 := h2 hs
                have hd1 : dd = true := by rw [HDD.out]; simp; omega
                have t1 : (vs == a1) = true := by simpa using hs
                have t2 : ¬ xb < vb := by omega
                subst hd1
                subst hs
                clear h2
                go_wp2
                go_region
                go_wp2
                go_roundw
                case rel => exact ⟨k + 1, by omega, by go_num, HM2.out⟩
                case measure => simp [intOf]; omega
              · have t1 : (vs == a1) = false := by simpa using hs
                clear h2
                go_wp2
                go_region
                go_wp2
                go_roundw
                case rel => exact ⟨k + 1, by omega, by go_num, HM2.out⟩
                case measure => simp [intOf]; omega
            · have j1 : ¬ (k : Int) < (L2.length : Int) := by omega
              have HM2 := Lib.hid hM2
              clear hM2
              go_wp2
              go_roundw
              case rel => exact ⟨i' + 1, by omega, by go_num, HM2.out⟩
              case measure => simp [intOf]; omega
        · have i2 : ¬ (i' : Int) < (LL.length : Int) := by omega
          have M9 := Lib.hid (M6.out.trans hM)
          clear hM
          go_wp2
          go_ret
          exact ⟨rfl, M9.out.below (Nat.le_refl _) (by simp)⟩
end Go.Proofs.YtphcoenooinmfaaDoor
