/- An acceptor's bytes: the document's Save. Premises: the variables 'steps' and 'errorType' are as laid. -/
import Derived.Test.YtphcoenooinmfaaDoorBal12
namespace Go.Proofs.YtphcoenooinmfaaDoor
open Go.RowKit
set_option linter.unusedVariables false
set_option linter.unusedSimpArgs false
attribute [local go_sem ↓] Go.wp_at_zero Go.wp_at_succ

set_option maxRecDepth 100000 in
set_option maxHeartbeats 4000000 in
theorem rsave_calls (w : World) (B r : Nat) (p : Int) (v : Value) (L : List VoteT) (h : RAcc w B r p v L) (hok : okL L) (hp0 : 0 ≤ p) (hp1 : p ≤ 1099511627776) (hl : L.length ≤ 250) (hE : ErrT w) :
    Calls Tryd.prog 41 #[.pointer (some ⟨r, 0, none⟩)] w (SavePost w p L) := by
  have HOL := Lib.hid hok
  have N0 := Lib.hid (Nw.refl hE)
  have HSK := Lib.hid (savK_succ p L)
  have HSL := Lib.hid (fun k hk => savK_len (p := p) hok k hk)
  have HSA := Lib.hid (savK_all p L)
  have HS0 : Hid (savK p L 0 = numB (numB [] p 8) L.length 2) := Lib.hid (savK_zero p L)
  obtain ⟨A, cap, rfl, hc, hm, -⟩ := (own_slA h.own).ex
  have hcap : cap ≤ 9223372036854775807 := by unfold maxLen at hm; omega
  have hrl : r < w.heap.size := h.arr.lt
  obtain ⟨G, hG⟩ : ∃ G, G = r :: (Value.ownBlock (.slice A L.length cap)).toList := ⟨_, rfl⟩
  obtain ⟨w1, hw1⟩ : ∃ w1, w1 = w.alloc (.cells #[.slice none 0 0] 110) := ⟨_, rfl⟩
  have m1 : Mod [] w w1 := by rw [hw1]; exact (Mod.refl _ _).alloc _
  have hS1 : SV w w1 110 w.heap.size [] [w.heap.size] G := ⟨N0.out.step0 m1, ⟨by rw [hw1]; exact Wtr.new w _, fun x hx => by simp at hx; omega⟩, fun x hx hg => by
    simp at hx
    subst hx
    rw [hG] at hg
    rcases List.mem_cons.1 hg with e | e
    · omega
    · have := (own_lt' h.own _ (by simpa using e)).2; omega, fun x hx => by
    rw [hG] at hx
    have := m1.size
    rcases List.mem_cons.1 hx with e | e
    · omega
    · have := (own_lt' h.own _ (by simpa using e)).2; omega⟩
  have hrG : r ∈ G := by rw [hG]; simp
  have hvG : ∀ k, (Value.slice A L.length cap).ownBlock = some k → k ∈ G := fun k hk => by rw [hG, hk]; simp
  have R1 := Lib.hid (h.mod0 m1)
  have S1 := Lib.hid hS1
  have HW1 := Lib.hid hw1
  have RG := Lib.hid hrG
  have VG := Lib.hid hvG
  have KP : Hid (∀ (wx wy : World) (bs : List UInt8) (F F' : List Nat), SV w wx 110 w.heap.size bs F G → Grow F F' wx wy → RAcc wx B r p (.slice A L.length cap) L → RAcc wy B r p (.slice A L.length cap) L) :=
    Lib.hid (fun wx wy bs F F' hS hg hR => ⟨hS.arr hg hR.arr RG.out, hS.own hg hR.own VG.out⟩)
  have q0 := R1.out.c0
  rw [hw1] at q0
  clear h hok hE hw1 m1 hS1 hrG hvG hG hm
  have P3 := Lib.hid (rwnumN p 8 S1.out.n S1.out.p (by omega) (by omega) (by omega) (by omega) (by simp))
  go_enter Tryd.func41, Tryd.ntmps41
  go_wp2_with fail
  rw [← HW1.out]
  (with_reducible refine P3.out.mono ?_)
  rintro e w3 ⟨v3, E3, F3, rfl, -, -, hW3, hG3, hN3⟩
  have S3 := Lib.hid (S1.out.step hW3 hG3 hN3)
  have R3 := Lib.hid (KP.out _ _ _ _ _ S1.out hG3 R1.out)
  have c3 := R3.out.c1
  clear hW3 hG3 hN3 P3 q0
  have hl8 := numB_len [] p 8
  have P4 := Lib.hid (rwnumN (L.length : Int) 2 S3.out.n S3.out.p (by omega) (by omega) (by omega) (by omega) (by simp at hl8; omega))
  clear hl8
  go_wp2_with fail
  (with_reducible refine P4.out.mono ?_)
  rintro e w4 ⟨v4, E4, F4, rfl, -, -, hW4, hG4, hN4⟩
  have hS4 := S3.out.step hW4 hG4 hN4
  rw [← HS0.out] at hS4
  have S4 := Lib.hid hS4
  have R4 := Lib.hid (KP.out _ _ _ _ _ S3.out hG4 R3.out)
  clear hW4 hG4 hN4 P4 hS4 c3
  go_wp2
  go_loopw [4] (fun i wr => ∃ (k : Nat) (F : List Nat), k ≤ L.length ∧ i = .int .i64 k ∧ SV w wr 110 w.heap.size (savK p L k) F G ∧ RAcc wr B r p (.slice A L.length cap) L) (fun i _ => L.length - (intOf i).toNat)
  case atStart => exact ⟨0, _, Nat.zero_le _, rfl, S4.out, R4.out⟩
  case round =>
    obtain ⟨k, F, hk, rfl, hS, hR⟩ := hrel
    clear S4 R4 S1 R1 S3 R3
    have hbl := HSL.out k hk
    have d1 := hR.c1
    by_cases hlt : k < L.length
    · have i0 : (0 : Int) ≤ (k : Int) := by omega
      have i1 : (k : Int) < (L.length : Int) := by omega
      have CELL : ∀ wx, RAcc wx B r p (.slice A L.length cap) L → ∃ bb off, A = some ⟨bb, off, none⟩ ∧ wx.cell? ⟨bb, off + k * 3, none⟩ = some (.int .i64 (L.getD k VoteT.zero).s) ∧ wx.cell? ⟨bb, off + k * 3 + 1, none⟩ = some (.int .i64 (L.getD k VoteT.zero).b) ∧ wx.cell? ⟨bb, off + k * 3 + 2, none⟩ = some (.string (L.getD k VoteT.zero).v) := by
        intro wx hx
        obtain ⟨A', cap', e, -, -, hx⟩ := (own_slA hx.own).ex
        injection e with e1 e2 e3
        subst e1
        obtain ⟨bb, off, rfl, hcell⟩ := hx (by omega)
        have x0 := hcell k 0 hlt (by omega)
        have x1 := hcell k 1 hlt (by omega)
        have x2 := hcell k 2 hlt (by omega)
        rw [vcells_get L k 0 hlt (by omega)] at x0
        rw [vcells_get L k 1 hlt (by omega)] at x1
        rw [vcells_get L k 2 hlt (by omega)] at x2
        exact ⟨bb, off, rfl, x0, x1, x2⟩
      have HCL := Lib.hid CELL
      obtain ⟨bb, off, hAe, x0, x1, x2⟩ := CELL wr hR
      clear CELL x1 x2
      obtain ⟨g0, g1, g2, g3, g4⟩ := HOL.out k hlt
      have hst := HSK.out k hlt
      generalize L.getD k VoteT.zero = x at *
      subst hAe
      have HST := Lib.hid hst
      have SA := Lib.hid hS
      have RA := Lib.hid hR
      obtain ⟨s0, b0, t0⟩ := x
      simp only at x0 g0 g1 g2 g3 g4
      clear hS hR hst
      have Q1 := Lib.hid (rwnumN s0 2 SA.out.n SA.out.p (by omega) (by omega) (by omega) (by omega) (by omega))
      go_wp2_with fail
      (with_reducible refine Q1.out.mono ?_)
      rintro e w5 ⟨v5, E5, F5, rfl, -, -, hW5, hG5, hN5⟩
      have S5 := Lib.hid (SA.out.step hW5 hG5 hN5)
      have R5 := Lib.hid (KP.out _ _ _ _ _ SA.out hG5 RA.out)
      obtain ⟨bb', off', e5, y0, y1, y2⟩ := HCL.out w5 R5.out
      injection e5 with e5
      injection e5 with e5 e6
      subst e5
      subst e6
      have d5 := R5.out.c1
      clear hW5 hG5 hN5 Q1 y0 y2 d1
      have hl5 := numB_len (savK p L k) s0 2
      have Q2 := Lib.hid (rwnumN b0 8 S5.out.n S5.out.p (by omega) (by omega) (by omega) (by omega) (by omega))
      go_wp2_with fail
      (with_reducible refine Q2.out.mono ?_)
      rintro e w6 ⟨v6, E6, F6, rfl, -, -, hW6, hG6, hN6⟩
      have S6 := Lib.hid (S5.out.step hW6 hG6 hN6)
      have R6 := Lib.hid (KP.out _ _ _ _ _ S5.out hG6 R5.out)
      obtain ⟨bb', off', e5, z0, z1, z2⟩ := HCL.out w6 R6.out
      injection e5 with e5
      injection e5 with e5 e6
      subst e5
      subst e6
      have d6 := R6.out.c1
      clear hW6 hG6 hN6 Q2 z0 z1 y1 d5
      have hl6 := numB_len (numB (savK p L k) s0 2) b0 8
      have Q3 := Lib.hid (rwtextN t0 S6.out.n S6.out.p (by omega) (by omega))
      go_wp2_with fail
      (with_reducible refine Q3.out.mono ?_)
      rintro e w7 ⟨v7, E7, F7, rfl, -, -, hW7, hG7, hN7⟩
      have S7 := Lib.hid (S6.out.step hW7 hG7 hN7)
      have R7 := Lib.hid (KP.out _ _ _ _ _ S6.out hG7 R6.out)
      clear hW7 hG7 hN7 Q3
      go_wp2
      go_roundw
      case rel => exact ⟨k + 1, _, by omega, by go_num, by rw [HST.out]; exact S7.out, R7.out⟩
      case measure => simp [intOf]; omega
    · have i1 : ¬ (k : Int) < (L.length : Int) := by omega
      obtain rfl : k = L.length := by omega
      have S8 := Lib.hid hS
      rw [HSA.out] at S8 hbl
      clear hS hR
      go_wp2_with fail
      refine (rwbytes_calls wr _ _ F S8.out.p.h).mono ?_
      rintro e w9 ⟨rfl, rfl⟩
      go_wp2_with fail
      refine (rseal_calls wr _ (by show (txt (savB p L)).size ≤ _; rw [txt_size]; omega)).mono ?_
      rintro e w9 ⟨rfl, m9⟩
      have F9 : Hid (SavePost w p L (.returned (.string (sealB (txt (savB p L))))) w9) := Lib.hid ⟨rfl, S8.out.n.mod.trans m9⟩
      clear m9
      go_wp2
      go_ret
      exact F9.out
end Go.Proofs.YtphcoenooinmfaaDoor
