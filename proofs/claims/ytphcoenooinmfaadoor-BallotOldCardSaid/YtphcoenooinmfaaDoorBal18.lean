/- The document's Load. Premise: the variable 'errorType' is as laid. (Written by wip/tools/genBal18.py.) -/
import Derived.Test.YtphcoenooinmfaaDoorBal17
namespace Go.Proofs.YtphcoenooinmfaaDoor
open Go.RowKit
set_option linter.unusedVariables false
set_option linter.unusedSimpArgs false
attribute [local go_sem ↓] Go.wp_at_zero Go.wp_at_succ

theorem votesN_len (g : Nat → Option VoteT) (n : Nat) : (votesN g n).length ≤ n := by
  unfold votesN
  have h2 := List.length_filterMap_le g (List.range n)
  rw [List.length_range] at h2
  exact h2
set_option maxRecDepth 100000 in
set_option maxHeartbeats 8000000 in
theorem rload_calls (w : World) (s : ByteArray) (hs : s.size ≤ 1000000) (hE : ErrT w) :
    Calls Tryd.prog 39 #[.string s] w (RLoadPost w s) := by
  have O := Lib.hid (ropen_calls w s hs)
  unfold OpenPost at O
  have hb := body_le' s
  have N0 := Lib.hid (Nw.refl hE)
  have FNO : Hid (ldR s = none → ∀ w', Mod [] w w' → RLoadPost w s (.returned (.tuple #[.pointer none, .int .i64 30])) w') := Lib.hid (fun h w' m => ⟨m, .inl ⟨h, rfl⟩⟩)
  clear hE
  obtain ⟨kb, hkb⟩ : ∃ kb, kb = okB s := ⟨_, rfl⟩
  have HR : Hid (ldR s = if kb = true then ldAcc (bodyB s) else none) := Lib.hid (by rw [hkb]; rfl)
  rw [← hkb] at O
  generalize bodyB s = t at *
  have ht : t.size ≤ 1000000 := by omega
  obtain ⟨eal, hea⟩ : ∃ eal, eal = rdL t 0 8 := ⟨_, rfl⟩
  have ea := Lib.hid hea
  have Lea : Hid (eal.length ≤ 1000) := Lib.hid (by rw [hea]; have := rdL_len t 0 8; omega)
  have ZZea : Hid (eal ≠ [] → (eal.headD 0 != 0) = true) := Lib.hid (fun h => by rw [hea] at h ⊢; exact head_nz (rdL_nz h))
  clear hea
  obtain ⟨ebl, heb⟩ : ∃ ebl, ebl = rdL t (rdA t 0 8) 2 := ⟨_, rfl⟩
  have eb := Lib.hid heb
  have Leb : Hid (ebl.length ≤ 1000) := Lib.hid (by rw [heb]; have := rdL_len t (rdA t 0 8) 2; omega)
  have ZZeb : Hid (ebl ≠ [] → (ebl.headD 0 != 0) = true) := Lib.hid (fun h => by rw [heb] at h ⊢; exact head_nz (rdL_nz h))
  clear heb
  have hp := rdN_bd t 0 8
  have hn := rdN_bd t (rdA t 0 8) 2
  obtain ⟨p, hpe⟩ : ∃ p, p = ldP t := ⟨_, rfl⟩
  obtain ⟨nn, hne⟩ : ∃ nn : Nat, (nn : Int) = ldN t := ⟨(ldN t).toNat, by have : 0 ≤ ldN t := hn.1; omega⟩
  have hp0 : 0 ≤ p := by rw [hpe]; exact hp.1
  have hp1 : p ≤ 9223372036854775807 := by rw [hpe]; exact hp.2
  have hn1 : (nn : Int) ≤ 9223372036854775807 := by rw [hne]; exact hn.2
  have HPE := Lib.hid hpe
  have HNE := Lib.hid hne
  have HPR : Hid (rdN t 0 8 = p) := Lib.hid hpe.symm
  have HNR : Hid (rdN t (rdA t 0 8) 2 = (nn : Int)) := Lib.hid hne.symm
  have HHD : Hid (ldHead t ↔ eal = [] ∧ ebl = []) := Lib.hid (by rw [ea.out, eb.out]; exact Iff.rfl)
  clear hp hn hpe hne hb hkb
  cases kb with
  | false =>
    simp only [Bool.false_eq_true, if_false] at HR
    go_enter Tryd.func39, Tryd.ntmps39
    go_wp2_with fail
    refine O.out.mono ?_
    rintro e w1 ⟨rfl, m1⟩
    obtain ⟨w2, hw2⟩ : ∃ w2, w2 = w1.alloc (.cells #[.string t, .int .i64 0] 132) := ⟨_, rfl⟩
    have m2 : Mod [] w1 w2 := by rw [hw2]; exact (Mod.refl _ _).alloc _
    obtain ⟨R, hR⟩ : ∃ R, R = w1.heap.size := ⟨_, rfl⟩
    have N2 := Lib.hid ((N0.out.step0 m1).step0 m2)
    have R2 : Hid (RdrN w w2 132 R t 0) := Lib.hid ⟨by rw [hw2, hR]; exact Rdr.new w1 _ t, by rw [hR]; exact (N0.out.step0 m1).le, Nat.zero_le _⟩
    have HW2 := Lib.hid hw2
    have HRR := Lib.hid hR
    clear m1 m2 hw2 hR
    have P11 := Lib.hid (rrnumN 8 N2.out R2.out ht (by omega) (by omega))
    rw [← ea.out] at P11
    rw [HPR.out] at P11
    go_wp2_with fail
    rw [← HW2.out, ← HRR.out]
    (with_reducible refine P11.out.mono ?_)
    rintro r w11 ⟨A11, cap11, at11, E11, rfl, hF11, hx11, hR11, m11, hN11⟩
    obtain ⟨w12, hw12⟩ : ∃ w12, w12 = w11.alloc (.cells #[.slice A11 eal.length cap11, .int .i64 at11] 112) := ⟨_, rfl⟩
    have m12 : Mod [] w11 w12 := by rw [hw12]; exact (Mod.refl _ _).alloc _
    have hRl11 := R2.out.lt
    have V11 : FV w12 R w11.heap.size eal A11 cap11 at11 := by rw [hw12]; exact FV.new hF11 (fun hx => by have := hx11 _ hx; omega) hR11
    have Gea12 := Lib.hid V11
    have N12 := Lib.hid (hN11.step0 m12)
    have R12 := Lib.hid (hR11.mod0 m12)
    have HW12 := Lib.hid hw12
    clear hF11 hx11 hR11 m11 hN11 hw12 m12 V11 P11 hRl11
    have P13 := Lib.hid (rrnumN 2 N12.out R12.out ht (by omega) (by omega))
    rw [← eb.out] at P13
    rw [HNR.out] at P13
    go_wp2_with fail
    rw [← HW12.out]
    (with_reducible refine P13.out.mono ?_)
    rintro r w13 ⟨A13, cap13, at13, E13, rfl, hF13, hx13, hR13, m13, hN13⟩
    obtain ⟨w14, hw14⟩ : ∃ w14, w14 = w13.alloc (.cells #[.slice A13 ebl.length cap13, .int .i64 at13] 112) := ⟨_, rfl⟩
    have m14 : Mod [] w13 w14 := by rw [hw14]; exact (Mod.refl _ _).alloc _
    have hRl13 := R12.out.lt
    have V13 : FV w14 R w13.heap.size ebl A13 cap13 at13 := by rw [hw14]; exact FV.new hF13 (fun hx => by have := hx13 _ hx; omega) hR13
    have Gea14 := Lib.hid ((Gea12.out.modR m13).mod0 m14)
    have Geb14 := Lib.hid V13
    have N14 := Lib.hid (hN13.step0 m14)
    have R14 := Lib.hid (hR13.mod0 m14)
    have HW14 := Lib.hid hw14
    clear hF13 hx13 hR13 m13 hN13 hw14 m14 V13 P13 hRl13
    have F := Lib.hid (FNO.out (HR.out) _ N14.out.mod)
    rw [HW14.out] at F
    go_wp2
    go_ret2
    exact F.out
  | true =>
    simp only [if_true] at HR
    go_enter Tryd.func39, Tryd.ntmps39
    go_wp2_with fail
    refine O.out.mono ?_
    rintro e w1 ⟨rfl, m1⟩
    obtain ⟨w2, hw2⟩ : ∃ w2, w2 = w1.alloc (.cells #[.string t, .int .i64 0] 132) := ⟨_, rfl⟩
    have m2 : Mod [] w1 w2 := by rw [hw2]; exact (Mod.refl _ _).alloc _
    obtain ⟨R, hR⟩ : ∃ R, R = w1.heap.size := ⟨_, rfl⟩
    have N2 := Lib.hid ((N0.out.step0 m1).step0 m2)
    have R2 : Hid (RdrN w w2 132 R t 0) := Lib.hid ⟨by rw [hw2, hR]; exact Rdr.new w1 _ t, by rw [hR]; exact (N0.out.step0 m1).le, Nat.zero_le _⟩
    have HW2 := Lib.hid hw2
    have HRR := Lib.hid hR
    clear m1 m2 hw2 hR
    have P11 := Lib.hid (rrnumN 8 N2.out R2.out ht (by omega) (by omega))
    rw [← ea.out] at P11
    rw [HPR.out] at P11
    go_wp2_with fail
    rw [← HW2.out, ← HRR.out]
    (with_reducible refine P11.out.mono ?_)
    rintro r w11 ⟨A11, cap11, at11, E11, rfl, hF11, hx11, hR11, m11, hN11⟩
    obtain ⟨w12, hw12⟩ : ∃ w12, w12 = w11.alloc (.cells #[.slice A11 eal.length cap11, .int .i64 at11] 112) := ⟨_, rfl⟩
    have m12 : Mod [] w11 w12 := by rw [hw12]; exact (Mod.refl _ _).alloc _
    have hRl11 := R2.out.lt
    have V11 : FV w12 R w11.heap.size eal A11 cap11 at11 := by rw [hw12]; exact FV.new hF11 (fun hx => by have := hx11 _ hx; omega) hR11
    have Gea12 := Lib.hid V11
    have N12 := Lib.hid (hN11.step0 m12)
    have R12 := Lib.hid (hR11.mod0 m12)
    have HW12 := Lib.hid hw12
    clear hF11 hx11 hR11 m11 hN11 hw12 m12 V11 P11 hRl11
    have P13 := Lib.hid (rrnumN 2 N12.out R12.out ht (by omega) (by omega))
    rw [← eb.out] at P13
    rw [HNR.out] at P13
    go_wp2_with fail
    rw [← HW12.out]
    (with_reducible refine P13.out.mono ?_)
    rintro r w13 ⟨A13, cap13, at13, E13, rfl, hF13, hx13, hR13, m13, hN13⟩
    obtain ⟨w14, hw14⟩ : ∃ w14, w14 = w13.alloc (.cells #[.slice A13 ebl.length cap13, .int .i64 at13] 112) := ⟨_, rfl⟩
    have m14 : Mod [] w13 w14 := by rw [hw14]; exact (Mod.refl _ _).alloc _
    have hRl13 := R12.out.lt
    have V13 : FV w14 R w13.heap.size ebl A13 cap13 at13 := by rw [hw14]; exact FV.new hF13 (fun hx => by have := hx13 _ hx; omega) hR13
    have Gea14 := Lib.hid ((Gea12.out.modR m13).mod0 m14)
    have Geb14 := Lib.hid V13
    have N14 := Lib.hid (hN13.step0 m14)
    have R14 := Lib.hid (hR13.mod0 m14)
    have HW14 := Lib.hid hw14
    clear hF13 hx13 hR13 m13 hN13 hw14 m14 V13 P13 hRl13
    by_cases ha : eal = []
    rotate_left
    · have Zea := Lib.hid (ZZea.out ha)
      have HN := Lib.hid (show ldR s = none from by rw [HR.out]; exact ldAcc_bad (fun h => ha (HHD.out.1 h).1))
      clear ha
      have x15 := Gea14.out.c0
      have y15 := Gea14.out.c1
      have K15 := Lib.hid (Gea14.out.code Lea.out)
      have z15 := Zea.out
      generalize eal.headD 0 = q15 at *
      rw [HW14.out] at x15 y15
      go_wp2_with fail
      rw [← HW14.out]
      (with_reducible refine K15.out.mono ?_)
      rintro r w15 ⟨rfl, m15⟩
      have Geb15 := Lib.hid (Geb14.out.mod0 m15)
      have N15 := Lib.hid (N14.out.step0 m15)
      have R15 := Lib.hid (R14.out.mod0 m15)
      clear m15 x15 y15 K15
      have F := Lib.hid (FNO.out (HN.out) _ N15.out.mod)
      go_wp2
      go_ret2
      exact F.out
    have HA0 := Lib.hid ha
    subst ha
    have x16 := Gea14.out.c0
    have y16 := Gea14.out.c1
    have K16 := Lib.hid (Gea14.out.code Lea.out)
    simp only [List.headD_nil, List.length_nil] at K16 x16
    rw [HW14.out] at x16 y16
    go_wp2_with fail
    rw [← HW14.out]
    (with_reducible refine K16.out.mono ?_)
    rintro r w16 ⟨rfl, m16⟩
    have Geb16 := Lib.hid (Geb14.out.mod0 m16)
    have N16 := Lib.hid (N14.out.step0 m16)
    have R16 := Lib.hid (R14.out.mod0 m16)
    clear m16 x16 y16 K16
    by_cases hb : ebl = []
    rotate_left
    · have Zeb := Lib.hid (ZZeb.out hb)
      have HN := Lib.hid (show ldR s = none from by rw [HR.out]; exact ldAcc_bad (fun h => hb (HHD.out.1 h).2))
      clear hb
      have x17 := Geb16.out.c0
      have y17 := Geb16.out.c1
      have K17 := Lib.hid (Geb16.out.code Leb.out)
      have z17 := Zeb.out
      generalize ebl.headD 0 = q17 at *
      go_wp2_with fail
      (with_reducible refine K17.out.mono ?_)
      rintro r w17 ⟨rfl, m17⟩
      have N17 := Lib.hid (N16.out.step0 m17)
      have R17 := Lib.hid (R16.out.mod0 m17)
      clear m17 x17 y17 K17
      have F := Lib.hid (FNO.out (HN.out) _ N17.out.mod)
      go_wp2
      go_ret2
      exact F.out
    have HB0 := Lib.hid hb
    subst hb
    have x18 := Geb16.out.c0
    have y18 := Geb16.out.c1
    have K18 := Lib.hid (Geb16.out.code Leb.out)
    simp only [List.headD_nil, List.length_nil] at K18 x18
    go_wp2_with fail
    (with_reducible refine K18.out.mono ?_)
    rintro r w18 ⟨rfl, m18⟩
    have N18 := Lib.hid (N16.out.step0 m18)
    have R18 := Lib.hid (R16.out.mod0 m18)
    clear m18 x18 y18 K18
    by_cases hpm : p ≤ 1099511627776
    rotate_left
    · have t1 : 1099511627776 < p := by omega
      have HN := Lib.hid (show ldR s = none from by rw [HR.out]; exact ldAcc_high (by rw [← HPE.out]; exact hpm))
      clear hpm
      have F := Lib.hid (FNO.out (HN.out) _ N18.out.mod)
      go_wp2
      go_ret2
      exact F.out
    have t1 : ¬ 1099511627776 < p := by omega
    obtain ⟨wl, hwl⟩ : ∃ wl, wl = w18.alloc (.cells #[.int .i64 0, .slice none 0 0] 48) := ⟨_, rfl⟩
    have ml : Mod [] w18 wl := by rw [hwl]; exact (Mod.refl _ _).alloc _
    obtain ⟨rr, hrr⟩ : ∃ rr, rr = w18.heap.size := ⟨_, rfl⟩
    have CL : Hid (RAcc wl w.heap.size rr 0 (.slice none 0 0) (votesN (fun _ => none) 4096)) := Lib.hid (by
      have h := (RAcc.new w18).base N18.out.le
      rw [← hwl, ← hrr] at h
      have e : votesN (fun _ => none) 4096 = [] := by unfold votesN; rw [List.filterMap_eq_nil_iff]; intro _ _; rfl
      rw [e]
      exact h)
    have NL := Lib.hid (N18.out.step0 ml)
    have RL := Lib.hid (R18.out.mod0 ml)
    have HWL := Lib.hid hwl
    have HRL := Lib.hid hrr
    have hrlo : w.heap.size ≤ rr := by rw [hrr]; exact N18.out.le
    have HLO := Lib.hid hrlo
    have HL0 : Hid (ldLoop t p 0 = some (rdA t (rdA t 0 8) 2, -1, fun _ => none)) := Lib.hid rfl
    clear hwl ml hrr hpm hrlo
    go_wp2
    rw [← HWL.out, ← HRL.out]
    go_loopw [12, 13] (fun q i wr => ∃ (k a : Nat) (last : Int) (g : Nat → Option VoteT) (v : Value), k ≤ nn ∧ q = .int .i64 last ∧ i = .int .i64 k ∧ Nw w wr ∧ RdrN w wr 132 R t a ∧ RAcc wr w.heap.size rr 0 v (votesN g 4096) ∧ ldLoop t p k = some (a, last, g) ∧ (∀ i y, i < 4096 → g i = some y → y.s = (i : Int)) ∧ -9223372036854775808 ≤ last ∧ last ≤ 9223372036854775807) (fun _ i _ => nn - (intOf i).toNat)
    case atStart => exact ⟨0, _, -1, _, _, Nat.zero_le _, rfl, rfl, NL.out, RL.out, CL.out, HL0.out, (fun i y _ h => by cases h), by omega, by omega⟩
    case round =>
      obtain ⟨k, a, last, g, v, hk, rfl, rfl, hN, hR, hC, hlp, hgs, hl0, hl1⟩ := hrel
      clear NL RL CL HL0
      have N0 := Lib.hid hN
      have R0 := Lib.hid hR
      have C0 := Lib.hid hC
      have HLP := Lib.hid hlp
      have HGS := Lib.hid hgs
      have hvl := votesN_len g 4096
      clear hN hR hC hlp hgs
      by_cases hlt : k < nn
      · have i0 : (0 : Int) ≤ (k : Int) := by omega
        have i1 : (k : Int) < (nn : Int) := by omega
        have bs1 := rdN_bd t a 2
        have bs2 := rdN_bd t (rdA t a 2) 8
        have HO : Hid (ldOk t p a last ↔ rdL t a 2 = [] ∧ rdL t (rdA t a 2) 8 = [] ∧ rtL t (rdA t (rdA t a 2) 8) = [] ∧ last < (ldX t a).s ∧ (ldX t a).b ≤ p ∧ accE 0 (ldX t a) = 0) := Lib.hid Iff.rfl
        have HX : Hid (ldX t a = ⟨rdN t a 2, rdN t (rdA t a 2) 8, rtS t (rdA t (rdA t a 2) 8)⟩) := Lib.hid rfl
        have HLA : Hid (ldA t a = rtA t (rdA t (rdA t a 2) 8)) := Lib.hid rfl
        have hxs : (rtS t (rdA t (rdA t a 2) 8)).size ≤ 9223372036854775807 := Nat.le_trans (rtS_size ht) (by omega)
        have LY := Lib.hid (fun h2 => ld_step_yes (t := t) (p := p) (k := k) (a := a) (last := last) (g := g) HLP.out h2)
        have BAD : Hid (¬ ldOk t p a last → ldR s = none) := Lib.hid (fun hno => by
          rw [HR.out]
          have h2 := HLP.out
          rw [HPE.out] at h2 hno
          exact ldAcc_mid h2 hno (by have := HNE.out; omega))
        obtain ⟨ecl, hec⟩ : ∃ ecl, ecl = rdL t a 2 := ⟨_, rfl⟩
        have ec := Lib.hid hec
        have Lec : Hid (ecl.length ≤ 1000) := Lib.hid (by rw [hec]; have := rdL_len t a 2; omega)
        have ZZec : Hid (ecl ≠ [] → (ecl.headD 0 != 0) = true) := Lib.hid (fun h => by rw [hec] at h ⊢; exact head_nz (rdL_nz h))
        clear hec
        obtain ⟨edl, hed⟩ : ∃ edl, edl = rdL t (rdA t a 2) 8 := ⟨_, rfl⟩
        have ed := Lib.hid hed
        have Led : Hid (edl.length ≤ 1000) := Lib.hid (by rw [hed]; have := rdL_len t (rdA t a 2) 8; omega)
        have ZZed : Hid (edl ≠ [] → (edl.headD 0 != 0) = true) := Lib.hid (fun h => by rw [hed] at h ⊢; exact head_nz (rdL_nz h))
        clear hed
        obtain ⟨eel, hee⟩ : ∃ eel, eel = rtL t (rdA t (rdA t a 2) 8) := ⟨_, rfl⟩
        have ee := Lib.hid hee
        have Lee : Hid (eel.length ≤ 1000) := Lib.hid (by rw [hee]; exact rtL_len _ _)
        have ZZee : Hid (eel ≠ [] → (eel.headD 0 != 0) = true) := Lib.hid (fun h => by rw [hee] at h ⊢; exact head_nz (rtL_nz h))
        clear hee
        rw [← ec.out, ← ed.out, ← ee.out] at HO
        have P19 := Lib.hid (rrnumN 2 N0.out R0.out ht (by omega) (by omega))
        rw [← ec.out] at P19

        go_wp2_with fail
        (with_reducible refine P19.out.mono ?_)
        rintro r w19 ⟨A19, cap19, at19, E19, rfl, hF19, hx19, hR19, m19, hN19⟩
        obtain ⟨w20, hw20⟩ : ∃ w20, w20 = w19.alloc (.cells #[.slice A19 ecl.length cap19, .int .i64 at19] 112) := ⟨_, rfl⟩
        have m20 : Mod [] w19 w20 := by rw [hw20]; exact (Mod.refl _ _).alloc _
        have hRl19 := R0.out.lt
        have V19 : FV w20 R w19.heap.size ecl A19 cap19 at19 := by rw [hw20]; exact FV.new hF19 (fun hx => by have := hx19 _ hx; omega) hR19
        have Gec20 := Lib.hid V19
        have C20 := Lib.hid ((C0.out.modR R0.out m19).mod0 m20)
        have N20 := Lib.hid (hN19.step0 m20)
        have R20 := Lib.hid (hR19.mod0 m20)
        have HW20 := Lib.hid hw20
        clear hF19 hx19 hR19 m19 hN19 hw20 m20 V19 P19 hRl19
        have P21 := Lib.hid (rrnumN 8 N20.out R20.out ht (by omega) (by omega))
        rw [← ed.out] at P21

        go_wp2_with fail
        rw [← HW20.out]
        (with_reducible refine P21.out.mono ?_)
        rintro r w21 ⟨A21, cap21, at21, E21, rfl, hF21, hx21, hR21, m21, hN21⟩
        obtain ⟨w22, hw22⟩ : ∃ w22, w22 = w21.alloc (.cells #[.slice A21 edl.length cap21, .int .i64 at21] 112) := ⟨_, rfl⟩
        have m22 : Mod [] w21 w22 := by rw [hw22]; exact (Mod.refl _ _).alloc _
        have hRl21 := R20.out.lt
        have V21 : FV w22 R w21.heap.size edl A21 cap21 at21 := by rw [hw22]; exact FV.new hF21 (fun hx => by have := hx21 _ hx; omega) hR21
        have Gec22 := Lib.hid ((Gec20.out.modR m21).mod0 m22)
        have Ged22 := Lib.hid V21
        have C22 := Lib.hid ((C20.out.modR R20.out m21).mod0 m22)
        have N22 := Lib.hid (hN21.step0 m22)
        have R22 := Lib.hid (hR21.mod0 m22)
        have HW22 := Lib.hid hw22
        clear hF21 hx21 hR21 m21 hN21 hw22 m22 V21 P21 hRl21
        have P23 := Lib.hid (rrtextN N22.out R22.out ht)
        rw [← ee.out] at P23

        go_wp2_with fail
        rw [← HW22.out]
        (with_reducible refine P23.out.mono ?_)
        rintro r w23 ⟨A23, cap23, at23, E23, rfl, hF23, hx23, hR23, m23, hN23⟩
        obtain ⟨w24, hw24⟩ : ∃ w24, w24 = w23.alloc (.cells #[.slice A23 eel.length cap23, .int .i64 at23] 112) := ⟨_, rfl⟩
        have m24 : Mod [] w23 w24 := by rw [hw24]; exact (Mod.refl _ _).alloc _
        have hRl23 := R22.out.lt
        have V23 : FV w24 R w23.heap.size eel A23 cap23 at23 := by rw [hw24]; exact FV.new hF23 (fun hx => by have := hx23 _ hx; omega) hR23
        have Gec24 := Lib.hid ((Gec22.out.modR m23).mod0 m24)
        have Ged24 := Lib.hid ((Ged22.out.modR m23).mod0 m24)
        have Gee24 := Lib.hid V23
        have C24 := Lib.hid ((C22.out.modR R22.out m23).mod0 m24)
        have N24 := Lib.hid (hN23.step0 m24)
        have R24 := Lib.hid (hR23.mod0 m24)
        have HW24 := Lib.hid hw24
        clear hF23 hx23 hR23 m23 hN23 hw24 m24 V23 P23 hRl23
        generalize rdN t a 2 = sl at *
        generalize rdN t (rdA t a 2) 8 = bb at *
        generalize rtS t (rdA t (rdA t a 2) 8) = ss at *
        by_cases hec : ecl = []
        rotate_left
        · have Zec := Lib.hid (ZZec.out hec)
          have HN := Lib.hid (BAD.out (fun ho => hec (HO.out.1 ho).1))
          clear hec
          have x25 := Gec24.out.c0
          have y25 := Gec24.out.c1
          have K25 := Lib.hid (Gec24.out.code Lec.out)
          have z25 := Zec.out
          generalize ecl.headD 0 = q25 at *
          rw [HW24.out] at x25 y25
          go_wp2_with fail
          rw [← HW24.out]
          (with_reducible refine K25.out.mono ?_)
          rintro r w25 ⟨rfl, m25⟩
          have Ged25 := Lib.hid (Ged24.out.mod0 m25)
          have Gee25 := Lib.hid (Gee24.out.mod0 m25)
          have C25 := Lib.hid (C24.out.mod0 m25)
          have N25 := Lib.hid (N24.out.step0 m25)
          have R25 := Lib.hid (R24.out.mod0 m25)
          clear m25 x25 y25 K25
          have F := Lib.hid (FNO.out (HN.out) _ N25.out.mod)
          go_wp2
          go_ret2
          exact F.out
        have Yec := Lib.hid hec
        subst hec
        have x26 := Gec24.out.c0
        have y26 := Gec24.out.c1
        have K26 := Lib.hid (Gec24.out.code Lec.out)
        simp only [List.headD_nil, List.length_nil] at K26 x26
        rw [HW24.out] at x26 y26
        go_wp2_with fail
        rw [← HW24.out]
        (with_reducible refine K26.out.mono ?_)
        rintro r w26 ⟨rfl, m26⟩
        have Ged26 := Lib.hid (Ged24.out.mod0 m26)
        have Gee26 := Lib.hid (Gee24.out.mod0 m26)
        have C26 := Lib.hid (C24.out.mod0 m26)
        have N26 := Lib.hid (N24.out.step0 m26)
        have R26 := Lib.hid (R24.out.mod0 m26)
        clear m26 x26 y26 K26
        by_cases hed : edl = []
        rotate_left
        · have Zed := Lib.hid (ZZed.out hed)
          have HN := Lib.hid (BAD.out (fun ho => hed (HO.out.1 ho).2.1))
          clear hed
          have x27 := Ged26.out.c0
          have y27 := Ged26.out.c1
          have K27 := Lib.hid (Ged26.out.code Led.out)
          have z27 := Zed.out
          generalize edl.headD 0 = q27 at *
          go_wp2_with fail
          (with_reducible refine K27.out.mono ?_)
          rintro r w27 ⟨rfl, m27⟩
          have Gee27 := Lib.hid (Gee26.out.mod0 m27)
          have C27 := Lib.hid (C26.out.mod0 m27)
          have N27 := Lib.hid (N26.out.step0 m27)
          have R27 := Lib.hid (R26.out.mod0 m27)
          clear m27 x27 y27 K27
          have F := Lib.hid (FNO.out (HN.out) _ N27.out.mod)
          go_wp2
          go_ret2
          exact F.out
        have Yed := Lib.hid hed
        subst hed
        have x28 := Ged26.out.c0
        have y28 := Ged26.out.c1
        have K28 := Lib.hid (Ged26.out.code Led.out)
        simp only [List.headD_nil, List.length_nil] at K28 x28
        go_wp2_with fail
        (with_reducible refine K28.out.mono ?_)
        rintro r w28 ⟨rfl, m28⟩
        have Gee28 := Lib.hid (Gee26.out.mod0 m28)
        have C28 := Lib.hid (C26.out.mod0 m28)
        have N28 := Lib.hid (N26.out.step0 m28)
        have R28 := Lib.hid (R26.out.mod0 m28)
        clear m28 x28 y28 K28
        by_cases hee : eel = []
        rotate_left
        · have Zee := Lib.hid (ZZee.out hee)
          have HN := Lib.hid (BAD.out (fun ho => hee (HO.out.1 ho).2.2.1))
          clear hee
          have x29 := Gee28.out.c0
          have y29 := Gee28.out.c1
          have K29 := Lib.hid (Gee28.out.code Lee.out)
          have z29 := Zee.out
          generalize eel.headD 0 = q29 at *
          go_wp2_with fail
          (with_reducible refine K29.out.mono ?_)
          rintro r w29 ⟨rfl, m29⟩
          have C29 := Lib.hid (C28.out.mod0 m29)
          have N29 := Lib.hid (N28.out.step0 m29)
          have R29 := Lib.hid (R28.out.mod0 m29)
          clear m29 x29 y29 K29
          have F := Lib.hid (FNO.out (HN.out) _ N29.out.mod)
          go_wp2
          go_ret2
          exact F.out
        have Yee := Lib.hid hee
        subst hee
        have x30 := Gee28.out.c0
        have y30 := Gee28.out.c1
        have K30 := Lib.hid (Gee28.out.code Lee.out)
        simp only [List.headD_nil, List.length_nil] at K30 x30
        go_wp2_with fail
        (with_reducible refine K30.out.mono ?_)
        rintro r w30 ⟨rfl, m30⟩
        have C30 := Lib.hid (C28.out.mod0 m30)
        have N30 := Lib.hid (N28.out.step0 m30)
        have R30 := Lib.hid (R28.out.mod0 m30)
        clear m30 x30 y30 K30
        by_cases c1 : last < sl
        rotate_left
        · have t2 : sl ≤ last := by omega
          have HN := Lib.hid (BAD.out (fun ho => c1 (by have := (HO.out.1 ho).2.2.2.1; rw [HX.out] at this; exact this)))
          clear c1
          have F := Lib.hid (FNO.out (HN.out) _ N30.out.mod)
          go_wp2
          go_ret2
          exact F.out
        by_cases c2 : bb ≤ p
        rotate_left
        · have t2 : ¬ sl ≤ last := by omega
          have t3 : p < bb := by omega
          have HN := Lib.hid (BAD.out (fun ho => c2 (by have := (HO.out.1 ho).2.2.2.2.1; rw [HX.out] at this; exact this)))
          clear c1 c2
          have F := Lib.hid (FNO.out (HN.out) _ N30.out.mod)
          go_wp2
          go_ret2
          exact F.out
        have t2 : ¬ sl ≤ last := by omega
        have t3 : ¬ p < bb := by omega
        have Q4 := Lib.hid (raccept_calls w30 w.heap.size rr 0 v (votesN g 4096) ⟨sl, bb, ss⟩ C30.out hxs (by omega) N30.out.le)
        have HC12 := Lib.hid (And.intro c1 c2)
        clear c1 c2
        go_wp2_with fail
        (with_reducible refine Q4.out.mono ?_)
        rintro r w9 ⟨v9, rfl, hC9, m9⟩
        have N9 := Lib.hid (N30.out.step m9 (fun x hx => by simp at hx; subst hx; exact HLO.out))
        have R9 := Lib.hid (R30.out.mod m9 (by simpa using Ne.symm (arr_ne C30.out.arr R30.out.h (by decide))))
        by_cases he : accE 0 ⟨sl, bb, ss⟩ = 0
        rotate_left
        · have he' : (accE 0 ⟨sl, bb, ss⟩ != 0) = true := by simpa using he
          have HN := Lib.hid (BAD.out (fun ho => he (by have := (HO.out.1 ho).2.2.2.2.2; rw [HX.out] at this; exact this)))
          have F := Lib.hid (FNO.out HN.out _ N9.out.mod)
          generalize accE 0 ⟨sl, bb, ss⟩ = ae at *
          clear hC9 m9 he
          go_wp2
          go_ret2
          exact F.out
        have q0 := hC9.c0
        have z0 := hC9.arr.free 0
        have hlp2 := LY.out (HO.out.2 ⟨Yec.out, Yed.out, Yee.out, by rw [HX.out]; exact HC12.out.1, by rw [HX.out]; exact HC12.out.2, by rw [HX.out]; exact he⟩)
        have hg2 : accG 0 g ⟨sl, bb, ss⟩ = setG g ⟨sl, bb, ss⟩ := by unfold accG; rw [if_pos he]; rfl
        have hgs2 : ∀ i y, i < 4096 → accG 0 g ⟨sl, bb, ss⟩ i = some y → y.s = (i : Int) := fun i y hi hy => by
          rw [hg2] at hy
          unfold setG at hy
          by_cases e1 : (i : Int) = (⟨sl, bb, ss⟩ : VoteT).s
          · rw [if_pos e1] at hy
            cases hy
            exact e1.symm
          · rw [if_neg e1] at hy
            exact HGS.out i y hi hy
        rw [HX.out, HLA.out, ← hg2] at hlp2
        have HLP2 := Lib.hid hlp2
        have HGS2 := Lib.hid hgs2
        have hC10 := hC9.setP 0
        rw [racc_votes HGS.out] at hC10
        have C10 := Lib.hid hC10
        have M10 : Hid (Mod [rr] w9 (w9.setCell ⟨rr, 0, none⟩ (.int .i64 0))) := Lib.hid ((Mod.refl _ _).setCell (.inl (by simp)) _)
        have R10 := Lib.hid (R9.out.mod M10.out (by simpa using Ne.symm (arr_ne hC9.arr R9.out.h (by decide))))
        have N10 := Lib.hid (N9.out.step M10.out (fun x hx => by simp at hx; subst hx; exact HLO.out))
        rw [he]
        clear hC9 m9 hlp2 hg2 he hgs2 hC10
        go_wp2
        go_roundw
        case rel => exact ⟨k + 1, _, sl, _, _, by omega, rfl, by go_num, N10.out, R10.out, C10.out, HLP2.out, HGS2.out, by omega, by omega⟩
        case measure => simp [intOf]; omega
      · have i1 : ¬ (k : Int) < (nn : Int) := by omega
        obtain rfl : k = nn := by omega
        have Q1 := Lib.hid (rrendN N0.out R0.out ht)
        go_wp2_with fail
        (with_reducible refine Q1.out.mono ?_)
        rintro r w6 ⟨v6, E6, rfl, hF6, hx6, m6, hN6⟩
        have C6 := Lib.hid (C0.out.mod0 m6)
        have N6 := Lib.hid hN6
        have K6 := Lib.hid (rcode_calls w6 v6 _ E6 hF6 (endL_len _ _))
        clear hF6 hx6 m6 hN6 Q1
        have HEN : Hid (endL t a ≠ [] → ldR s = none) := Lib.hid (fun he => by rw [HR.out]; exact ldAcc_end (a := a) (last := last) (g := g) (by rw [← HPE.out, ← HNE.out, Int.toNat_natCast]; exact HLP.out) he)
        have HZ : Hid (endL t a ≠ [] → ((endL t a).headD 0 != 0) = true) := Lib.hid (fun h => head_nz (endL_nz h))
        have HYES : Hid (endL t a = [] → ldR s = some (p, g)) := Lib.hid (fun he => by
          rw [HR.out]
          have hpm : ldP t ≤ 1099511627776 := by rw [← HPE.out]; omega
          have h2 := ldAcc_yes (a := a) (last := last) (g := g) (HHD.out.2 ⟨HA0.out, HB0.out⟩) hpm (by rw [← HPE.out, ← HNE.out, Int.toNat_natCast]; exact HLP.out) he
          rw [h2, HPE.out])
        generalize endL t a = el at *
        go_wp2_with fail
        (with_reducible refine K6.out.mono ?_)
        rintro r w7 ⟨rfl, m7⟩
        have C7 := Lib.hid (C6.out.mod0 m7)
        have N7 := Lib.hid (N6.out.step0 m7)
        clear m7 K6
        by_cases he : el = []
        rotate_left
        · have hz := HZ.out he
          have HN := Lib.hid (HEN.out he)
          have F := Lib.hid (FNO.out HN.out _ N7.out.mod)
          generalize el.headD 0 = q at *
          clear he
          go_wp2
          go_ret2
          exact F.out
        · have hy := HYES.out he
          subst he
          simp only [List.headD_nil]
          have q0 := C7.out.c0
          have z0 := C7.out.arr.free 0
          have F : Hid (RLoadPost w s (.returned (.tuple #[.pointer (some ⟨rr, 0, none⟩), .int .i64 0])) (w7.setCell ⟨rr, 0, none⟩ (.int .i64 p))) := Lib.hid ⟨N7.out.mod.fresh ((Mod.refl [rr] w7).setCell (.inl (by simp)) _) (fun x hx => by simp at hx; subst hx; exact .inr HLO.out), .inr ⟨p, g, rr, v, hy, rfl, C7.out.setP p, HLO.out⟩⟩
          clear hy
          go_wp2
          go_ret2
          exact F.out
end Go.Proofs.YtphcoenooinmfaaDoor

