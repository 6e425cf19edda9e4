/- The walk of the law SpanDrops: what a client is told to have had, put back one by one, is what it had; others have what they had. The premise: the variable 'whole' holds what its initialiser lays. -/
import Derived.Test.YtkajedgghoboaaaDoorProg
import Derived.Test.YtkajedgghoboaaaDoorRow
import Derived.Test.YtkajedgghoboaaaDoorScr
import Derived.Test.YtkajedgghoboaaaDoorDropsP
namespace Go.Proofs.YtkajedgghoboaaaDoor
open Go.RowKit
set_option linter.unusedVariables false
set_option linter.unusedSimpArgs false
attribute [local go_sem ↓] Go.wp_at_zero Go.wp_at_succ

/-- Behind k steps: few turns, no clash. -/
structure ScK (W wr : World) (base bT r k : Nat) : Prop where
  ex : ∃ t, Pair wr base bT r t ∧ Apart t ∧ turnsT t 8 ≤ 2 * k
  md : Mod [] W wr
  s1 : W.heap.size ≤ bT
  s2 : W.heap.size ≤ r
/-- The program's table alone. -/
structure DrI (W zL wr : World) (bT : Nat) (t : Nat → Nat → Nat) : Prop where
  tb : Tb wr bT t
  wh : Whole wr
  md : Mod [bT] zL wr
theorem DrI.next {W zL wr w' : World} {bT : Nat} {t t' : Nat → Nat → Nat} (h : DrI W zL wr bT t) (hT : Tb w' bT t') (k : Mod [bT] wr w') (hn0 : bT ≠ 0) : DrI W zL w' bT t' :=
  ⟨hT, h.wh.mod k (by simp; omega), h.md.trans k⟩
theorem DrI.same {W zL wr w' : World} {bT : Nat} {t : Nat → Nat → Nat} (h : DrI W zL wr bT t) (k : Mod [] wr w') : DrI W zL w' bT t :=
  ⟨h.tb.mod k (by simp), h.wh.mod k (by simp), h.md.trans k.nil⟩
/-- A list of holds, in memory, that bears with the table's changes. -/
def HsT (bT : Nat) (w : World) (v : Value) (L : List HoldT) : Prop := Hs w v L ∧ ∀ w', Mod [bT] w w' → Hs w' v L
theorem hsT_own {w : World} {bT base : Nat} {v : Value} {L : List HoldT} {t : Nat → Nat → Nat} (h : w.ownsRow base 31 4 v L.length (hcells L)) (hT : Tb w bT t) : HsT bT w v L := by
  refine ⟨hs_own h, fun w' m => hs_own (own_mod h m (fun k hk hs => ?_))⟩
  have e' : k = bT := by simpa using hs
  subst e'
  obtain ⟨cs, h1, _, _⟩ := hT.arr
  exact absurd (own_type h k (by simpa using hk) _ _ h1) (by decide)
theorem HsT.next {w w' : World} {bT : Nat} {v : Value} {L : List HoldT} (h : HsT bT w v L) (m : Mod [bT] w w') : HsT bT w' v L := ⟨h.2 _ m, fun w'' m' => h.2 _ (m.trans m')⟩

set_option maxRecDepth 100000 in
set_option maxHeartbeats 8000000 in
theorem spanDrops_walk (W : World) (t0 : Whole W) (v0 : Value) (c0 : CellOk W (.sl [.int .i64, .int .i64, .int .i64, .int .i64, .int .i64]) v0)
    (a1 : Int) (w1 : (Lit.int .u8 a1).wf = true) :
    Calls Tryd.prog 8 #[v0, .int .u8 a1] W fun e w' => e = .returned (.bool true) ∧ Below W.heap.size W w' := by
  have g1 := bd_u8 w1
  obtain ⟨n1, rfl, hn1⟩ : ∃ n1 : Nat, a1 = n1 ∧ n1 < 256 := ⟨a1.toNat, by omega, by omega⟩
  obtain ⟨c, hc8, hcc⟩ : ∃ c : Nat, c < 8 ∧ (n1 : Int) % 8 = c := ⟨n1 % 8, by omega, by omega⟩
  have HC := Lib.hid hcc
  obtain ⟨n, f, hA, hf⟩ := c0.slA (by simp)
  obtain ⟨A, cap0, rfl, hn, hcap, hcell⟩ := hA.ex
  have hcap' : cap0 ≤ 9223372036854775807 := by unfold maxLen at hcap; omega
  clear hcap c0 hA w1 g1 hcc
  have HT := Lib.hid t0
  clear t0
  by_cases h40 : 30 < n
  · have hi : (30 : Int) < (n : Int) := by omega
    go_enter Tryd.func8, Tryd.ntmps8
    go_wp2_with (go_at_call 15; refine (shown_calls _ HT.out).mono ?_; rintro e w' ⟨rfl, m⟩)
    go_ret
    exact ⟨rfl, m.below (Nat.le_refl _) (by simp)⟩
  have h5 : decide (30 < n) = false := by simpa using h40
  go_enter Tryd.func8, Tryd.ntmps8
  go_wp2_with fail
  refine (shown_calls _ HT.out).mono ?_
  rintro e z2 ⟨rfl, m2⟩
  have I3 := scI_new0 (HT.out.mod m2 (by simp)) m2 (World.block_lt_of_cell? W _ HT.out.1)
  go_wp2_with (go_at_call 16; refine (spNew_calls z2).mono ?_; rintro e z3 ⟨rfl, rfl⟩)
  obtain ⟨bT, hbT⟩ : ∃ bT, bT = z2.heap.size := ⟨_, rfl⟩
  rw [← hbT] at I3 ⊢
  obtain ⟨r, hr⟩ : ∃ r, r = bT + 1 := ⟨_, rfl⟩
  rw [← hr] at I3 ⊢
  obtain ⟨hp0, hm0, hs1, hs2⟩ := I3
  have HI := Lib.hid (⟨⟨_, hp0, apart_zero, by rw [turnsT_none]; omega⟩, hm0, hs1, hs2⟩ : ScK W ((z2.alloc (.cells zTab 87)).alloc (.cells #[.slice none 0 0] 42)) W.heap.size bT r 0)
  clear m2 hbT hr hp0 hm0 hs1 hs2
  go_loopw [7] (fun i wr => ∃ k : Nat, k ≤ n ∧ i = .int .i64 k ∧ ScK W wr W.heap.size bT r k) (fun i _ => n - (intOf i).toNat)
  case atStart => exact ⟨0, Nat.zero_le _, rfl, HI.out⟩
  case round =>
    obtain ⟨k, hkn, rfl, hI⟩ := hrel
    clear HI
    by_cases hlt : k < n
    · obtain ⟨bl, off, rfl, hx⟩ := hcell (by omega)
      obtain ⟨x0, e0, q0⟩ := (hf k 0 _ hlt rfl).int_inv
      obtain ⟨x1, e1, q1⟩ := (hf k 1 _ hlt rfl).int_inv
      obtain ⟨x2, e2, q2⟩ := (hf k 2 _ hlt rfl).int_inv
      obtain ⟨x3, e3, q3⟩ := (hf k 3 _ hlt rfl).int_inv
      obtain ⟨x4, e4, q4⟩ := (hf k 4 _ hlt rfl).int_inv
      have y0 := hx k 0 hlt (by simp)
      have y1 := hx k 1 hlt (by simp)
      have y2 := hx k 2 hlt (by simp)
      have y3 := hx k 3 hlt (by simp)
      have y4 := hx k 4 hlt (by simp)
      rw [e0] at y0
      rw [e1] at y1
      rw [e2] at y2
      rw [e3] at y3
      rw [e4] at y4
      simp only [List.length_cons, List.length_nil, Nat.zero_add, Nat.reduceAdd, Nat.add_zero] at y0 y1 y2 y3 y4
      replace y0 := hI.md.cell' y0 (by simp)
      replace y1 := hI.md.cell' y1 (by simp)
      replace y2 := hI.md.cell' y2 (by simp)
      replace y3 := hI.md.cell' y3 (by simp)
      replace y4 := hI.md.cell' y4 (by simp)
      clear hx e0 e1 e2 e3 e4 hf hcell q0 q1 q2 q3 q4
      have i0 : (0 : Int) ≤ (k : Int) := by omega
      have i1 : (k : Int) < (n : Int) := by omega
      obtain ⟨t, hp, hap, htt⟩ := hI.ex
      have C1 := Lib.hid ((does15_calls wr W.heap.size bT r t x0 x1 x2 x3 x4 hp).mono (R' := fun e w' => e = .returned (.bool true) ∧ ScK W w' W.heap.size bT r (k + 1)) (by
        rintro e w' ⟨he, t', hp', hm, hst⟩
        have e1 := hI.s1
        have e2 := hI.s2
        exact ⟨he, ⟨_, hp', hst.1 hap, by have := hst.2; omega⟩, hI.md.fresh hm (fun x hx => .inr (by simp at hx; omega)), e1, e2⟩))
      clear hI hp hap htt
      go_wp2_with (go_at_call 22; refine C1.out.mono ?_; rintro e z1 ⟨rfl, J⟩; have HJ := Lib.hid J; clear J)
      go_roundw
      case rel => exact ⟨k + 1, by omega, by go_num, HJ.out⟩
      case measure => simp [intOf]; omega
    · obtain rfl : k = n := by omega
      have hlt' : decide (k < k) = false := by simp
      clear hf hcell
      obtain ⟨t, hp, hap, htt⟩ := hI.ex
      have D0 : DrI W wr wr bT t := ⟨hp.tb, hp.wh, Mod.refl _ _⟩
      have hn0 := hp.n0
      have hs1 := hI.s1
      have HM0 := Lib.hid hI.md
      have HAP := Lib.hid hap
      have HTT := Lib.hid (show turnsT t 8 ≤ 200 by omega)
      have HBD := Lib.hid hp.tb.bd
      have HD0 := Lib.hid D0
      obtain ⟨w0, hw0⟩ : ∃ w0, w0 = wr := ⟨_, rfl⟩
      rw [← hw0] at HD0 HM0 ⊢
      clear hI hp hap htt D0 hw0
      go_wp2_with fail
      refine (spList_calls w0 bT t HD0.out.tb HD0.out.wh).mono ?_
      rintro e z1 ⟨vA, rfl, hoA, mA⟩
      have hA := hsT_own hoA ((HD0.out.same mA).tb)
      have HA1 := Lib.hid hA
      have HD1 := Lib.hid (HD0.out.same mA)
      obtain ⟨pA, capA, rfl⟩ := own_slice hoA
      clear hoA mA hA HD0
      go_wp2_with fail
      rw [HC.out]
      refine (spDrop_calls z1 bT t c HD1.out.tb HD1.out.wh).mono ?_
      rintro e z4 ⟨vD, rfl, hoD, TD, mD⟩
      rw [drop_set t hc8] at TD
      have HA2 := Lib.hid (HA1.out.next mD)
      have HD2 := Lib.hid (HD1.out.next TD mD hn0)
      have hD := hsT_own hoD TD
      have HDL := Lib.hid hD
      obtain ⟨pD, capD, rfl⟩ := own_slice hoD
      clear hoD mD TD hD HA1 HD1
      go_wp2_with fail
      refine (spList_calls z4 bT _ HD2.out.tb HD2.out.wh).mono ?_
      rintro e z5 ⟨vB, rfl, hoB, mB⟩
      have HA3 := Lib.hid (HA2.out.next mB.nil)
      have HD3 := Lib.hid (HD2.out.same mB)
      have HDL3 := Lib.hid (HDL.out.next mB.nil)
      have hB := hsT_own hoB (HD3.out.tb)
      have HB := Lib.hid hB
      obtain ⟨pB, capB, rfl⟩ := own_slice hoB
      clear hoB mB hB HA2 HD2 HDL
      have hlen := drop_len t hc8
      obtain ⟨NB, hNB⟩ : ∃ NB, NB = (listL (freed t c 256)).length := ⟨_, rfl⟩
      obtain ⟨ND, hND⟩ : ∃ ND, ND = (someL t 0 256 (pOf c)).length := ⟨_, rfl⟩
      obtain ⟨NA, hNA⟩ : ∃ NA, NA = (listL t).length := ⟨_, rfl⟩
      have hb1 : NB ≤ 2048 := by rw [hNB]; exact holdsTo_len _ 0 256 pAll 8
      have hb2 : ND ≤ 2048 := by rw [hND]; exact holdsTo_len _ _ _ _ 8
      rw [← hNB, ← hND, ← hNA] at hlen
      rw [← hNB] at HB ⊢
      rw [← hND] at HDL3 ⊢
      rw [← hNA] at HA3 ⊢
      subst hlen
      have hxx : (((NB + ND : Nat) : Int)) = (NB : Int) + ND := by omega
      have HNB := Lib.hid hNB
      have HND := Lib.hid hND
      have HNA := Lib.hid hNA
      have hne : ((NB : Int) + (ND : Int) != (((NB + ND : Nat)) : Int)) = false := by simp
      clear hNB hND hNA hxx
      have M05 := Lib.hid HD3.out.md
      have HD5 := Lib.hid (⟨HD3.out.tb, HD3.out.wh, Mod.refl _ _⟩ : DrI W z5 z5 bT (freed t c 256))
      clear HD3
      obtain ⟨_, _, eB, hB1, hB2, hB3⟩ := HB.out.1
      injection eB with eB1 eB2 eB3
      subst eB1 eB3
      obtain ⟨_, _, eD, hD1, hD2, hD3⟩ := HDL3.out.1
      injection eD with eD1 eD2 eD3
      subst eD1 eD3
      rw [← HNB.out] at hB2 hB3
      rw [← HND.out] at hD2 hD3
      have HB3 := Lib.hid hB3
      have HD3' := Lib.hid hD3
      clear eB2 eD2 hB3 hD3
      go_wp2
      go_loop [12] (fun i => ∃ k : Nat, k ≤ NB ∧ i = .int .i64 k) (fun i => NB - (intOf i).toNat)
      case atStart => exact ⟨0, Nat.zero_le _, rfl⟩
      case round =>
        obtain ⟨i, hi, rfl⟩ := hrel
        by_cases hlt : i < NB
        · obtain ⟨g, rfl, hx⟩ := HB3.out (by omega)
          have hiL : i < (listL (freed t c 256)).length := by rw [← HNB.out]; exact hlt
          obtain ⟨⟨x1, x2, x3, x4⟩, hh⟩ : ∃ h, (listL (freed t c 256))[i]? = some h := ⟨_, List.getElem?_eq_getElem hiL⟩
          obtain ⟨_, _, y2, _⟩ := hx i _ hh
          have hoth := left_other (List.mem_of_getElem? hh)
          dsimp only at y2 hoth
          have f1 : ((x3 : Int) == (c : Int)) = false := by simp; omega
          have i0 : (0 : Int) ≤ (i : Int) := by omega
          have i1 : (i : Int) < (NB : Int) := by omega
          clear hx hh hoth hiL
          go_wp2
          go_round
          case rel => exact ⟨i + 1, by omega, by go_num⟩
          case measure => simp [intOf]; omega
        · obtain rfl : i = NB := by omega
          have hlti : decide (i < i) = false := by simp
          go_wp2
          go_loopw [13] (fun v wr => ∃ j : Int, -1 ≤ j ∧ j < ND ∧ v = .int .i64 j ∧ DrI W z5 wr bT (freed t c (stOf t c (j + 1).toNat))) (fun v _ => ((intOf v) + 1).toNat)
          case atStart =>
            refine ⟨(ND : Int) - 1, by omega, by omega, rfl, ?_⟩
            rw [show ((ND : Int) - 1 + 1).toNat = ND by omega, HND.out, drop_list t hc8, List.length_map, ← freed_all]
            exact HD5.out
          case round =>
            obtain ⟨j, hj1, hj2, rfl, hD⟩ := hrel
            clear HD5
            by_cases hj0 : 0 ≤ j
            · obtain ⟨q, rfl⟩ : ∃ q : Nat, j = q := ⟨j.toNat, by omega⟩
              have hqR : q < (runsL (t c) 0 256).length := by
                have := HND.out
                rw [drop_list t hc8, List.length_map] at this
                omega
              obtain ⟨⟨r1, r2, r3⟩, hr⟩ : ∃ x, (runsL (t c) 0 256)[q]? = some x := ⟨_, List.getElem?_eq_getElem hqR⟩
              have PB := Lib.hid (put_back HAP.out HBD.out HTT.out hc8 hr)
              have hL : (someL t 0 256 (pOf c))[q]? = some (r1, r2, c, r3) := by rw [drop_list t hc8, List.getElem?_map, hr]; rfl
              have hH := HDL3.out.2 _ hD.md
              obtain ⟨_, _, eD, _, _, hH3⟩ := hH
              injection eD with eD1 eD2 eD3
              subst eD1
              obtain ⟨g, rfl, hx⟩ := hH3 (by rw [← HND.out]; omega)
              obtain ⟨y0, y1, y2, y3⟩ := hx q _ hL
              dsimp only at y0 y1 y2 y3
              rw [show ((q : Int) + 1).toNat = q + 1 by omega] at hD
              have f1 : ((c : Int) != (c : Int)) = false := by simp
              have HD6 := Lib.hid hD
              clear hx hH3 hL hr hD eD2 eD3 hqR
              go_wp2_with fail
              refine (spPut_calls wr bT _ r1 r2 c r3 HD6.out.tb HD6.out.wh hn0).mono ?_
              rintro e w6 ⟨rfl, T6, M6⟩
              rw [PB.out.1]
              have D7 := HD6.out.next T6 M6 hn0
              rw [PB.out.2] at D7
              have HD7 := Lib.hid D7
              clear T6 M6 D7 y0 y1 y2 y3
              go_wp2
              go_roundw
              case rel => exact ⟨(q : Int) - 1, by omega, by omega, rfl, by rw [show ((q : Int) - 1 + 1).toNat = q by omega]; exact HD7.out⟩
              case measure => simp [intOf]
            · obtain rfl : j = -1 := by omega
              have hj0' : decide ((0 : Int) ≤ -1) = false := by decide
              rw [show ((-1 : Int) + 1).toNat = 0 by decide, freed_zero] at hD
              have HD6 := Lib.hid hD
              clear hD
              go_wp2_with fail
              refine (spList_calls wr bT t HD6.out.tb HD6.out.wh).mono ?_
              rintro e z7 ⟨v7, rfl, ho7, m7⟩
              have hs7 := hs_own ho7
              have hA7 : Hs z7 (.slice pA (i + ND) capA) (listL t) := (HA3.out.2 _ HD6.out.md).same m7
              have HS7 := Lib.hid hs7
              have HA7 := Lib.hid hA7
              have HD7 := Lib.hid (HD6.out.same m7)
              obtain ⟨p7, cap7, rfl⟩ := own_slice ho7
              clear ho7 m7 hs7 hA7
              go_wp2_with fail
              refine (same_true _ _ _ _ HS7.out HA7.out).mono ?_
              rintro e z8 ⟨rfl, m8⟩
              have HD8 := Lib.hid (HD7.out.same m8)
              clear m8
              go_wp2_with fail
              refine (spDrop_calls z8 bT t (-1) HD8.out.tb HD8.out.wh).mono ?_
              rintro e z9 ⟨v9, rfl, ho9, T9, m9⟩
              rw [drop_none] at ho9
              obtain ⟨p9, cap9, rfl⟩ := own_slice ho9
              have MF := Lib.hid (HM0.out.fresh (M05.out.trans (HD8.out.md.trans m9)) (fun x hx => .inr (by simp at hx; omega)))
              clear ho9 T9 m9
              go_wp2
              go_ret
              exact ⟨rfl, MF.out.below (Nat.le_refl _) (by simp)⟩
end Go.Proofs.YtkajedgghoboaaaDoor
