/- Package ballot's read, walked. Premise: the variable 'errorType' is as laid. -/
import Derived.Test.YtphcoenooinmfaaDoorBal15
namespace Go.Proofs.YtphcoenooinmfaaDoor
open Go.RowKit
set_option linter.unusedVariables false
set_option linter.unusedSimpArgs false
attribute [local go_sem ↓] Go.wp_at_zero Go.wp_at_succ

set_option maxRecDepth 100000 in
set_option maxHeartbeats 8000000 in
theorem read_calls (W w : World) (R : Nat) (t : ByteArray) (hN : Nw W w) (hR : RdrN W w 167 R t 0) (ht : t.size ≤ 1000000) :
    Calls Tryd.prog 70 #[.pointer (some ⟨R, 0, none⟩)] w (ReadPost W w R t) := by
  obtain ⟨w1, hw1⟩ : ∃ w1, w1 = w.alloc (.cells #[.pointer (some ⟨R, 0, none⟩)] 125) := ⟨_, rfl⟩
  have m1 : Mod [] w w1 := by rw [hw1]; exact (Mod.refl _ _).alloc _
  have A1 : Arr w1 w.heap.size 125 1 (fun _ => .pointer (some ⟨R, 0, none⟩)) := by
    rw [hw1]
    exact Arr.new' w _ _ 1 _ rfl (fun i hi => by
      match i, hi with
      | 0, _ => rfl)
  have HW1 := Lib.hid hw1
  have K1 := Lib.hid (And.intro m1 (And.intro A1 (And.intro hN hR)))
  have CN := Lib.hid (accNew_calls w1)
  clear m1 A1 hN hR hw1
  go_enter Tryd.func70, Tryd.ntmps70
  go_wp2_with fail
  rw [← HW1.out]
  refine CN.out.mono ?_
  rintro e w2 ⟨rfl, hA2, m2⟩
  obtain ⟨w3, hw3⟩ : ∃ w3, w3 = w2.alloc (.cells #[.nilIface] 64) := ⟨_, rfl⟩
  have m3 : Mod [] w2 w3 := by rw [hw3]; exact (Mod.refl _ _).alloc _
  have E3 : Arr w3 w2.heap.size 64 1 (fun _ => .nilIface) := by
    rw [hw3]
    exact Arr.new' w2 _ _ 1 _ rfl (fun i hi => by
      match i, hi with
      | 0, _ => rfl)
  have S3 : RS W w3 t w.heap.size R w2.heap.size w1.heap.size 0 .nilIface [] 0 (fun _ => none) (fun _ => 0) :=
    ⟨((K1.out.2.2.1.step0 K1.out.1).step0 m2).step0 m3, ((K1.out.2.2.2.mod0 K1.out.1).mod0 m2).mod0 m3, (K1.out.2.1.mod m2 (by simp)).mod m3 (by simp), E3, ⟨[], .nil⟩, hA2.mod m3, (((K1.out.2.2.1.step0 K1.out.1).step0 m2)).le, (K1.out.2.2.1.step0 K1.out.1).le⟩
  have hlow : w.heap.size ≤ w1.heap.size := K1.out.1.size
  have HW3 := Lib.hid hw3
  have H3 := Lib.hid S3
  clear hw3 m3 E3 S3 hA2 m2
  have P3 := Lib.hid (num_calls W w3 w.heap.size R w2.heap.size 0 t .nilIface [] [] 8 H3.out.n H3.out.rd ht H3.out.bx H3.out.er H3.out.lo .nil (by omega) (by omega))
  have hp := rdN_bd t 0 8
  have hn := rdN_bd t (rdA t 0 8) 2
  obtain ⟨p, hpe⟩ : ∃ p, p = ldP t := ⟨_, rfl⟩
  obtain ⟨nn, hne⟩ : ∃ nn : Nat, (nn : Int) = ldN t := ⟨(ldN t).toNat, by have : 0 ≤ ldN t := hn.1; omega⟩
  have hp0 : 0 ≤ p := by rw [hpe]; exact hp.1
  have hp1 : p ≤ 9223372036854775807 := by rw [hpe]; exact hp.2
  have hn1 : (nn : Int) ≤ 9223372036854775807 := by rw [hne]; exact hn.2
  have HPE := Lib.hid hpe
  have HNE := Lib.hid hne
  clear hp hn hpe hne
  go_wp2_with fail
  rw [← HW3.out]
  (with_reducible refine P3.out.mono ?_)
  rintro r w4 hP4
  obtain ⟨v4, rfl, hS4, -⟩ := H3.out.num hP4
  rw [show rdN t 0 8 = p from HPE.out.symm]
  have H4 := Lib.hid hS4
  clear hS4 hP4 P3
  obtain ⟨e4, he4⟩ := H4.out.es
  have P4 := Lib.hid (num_calls W w4 w.heap.size R w2.heap.size _ t v4 _ e4 2 H4.out.n H4.out.rd ht H4.out.bx H4.out.er H4.out.lo he4 (by omega) (by omega))
  clear he4
  go_wp2_with fail
  (with_reducible refine P4.out.mono ?_)
  rintro r w5 hP5
  obtain ⟨v5, rfl, hS5, -⟩ := H4.out.num hP5
  rw [show rdN t (rdA t 0 8) 2 = (nn : Int) from HNE.out.symm]
  have H5 := Lib.hid hS5
  clear hS5 hP5 P4
  have HH : Hid (firstL (firstL [] (rdL t 0 8)) (rdL t (rdA t 0 8) 2) = [] ↔ ldHead t) := Lib.hid (by rw [firstL_nil, firstL_nil]; unfold ldHead; simp)
  have HL0 : Hid (ldLoop t p 0 = some (rdA t (rdA t 0 8) 2, -1, fun _ => none)) := Lib.hid rfl
  obtain ⟨l5, hl5⟩ : ∃ l5, l5 = firstL (firstL [] (rdL t 0 8)) (rdL t (rdA t 0 8) 2) := ⟨_, rfl⟩
  rw [← hl5] at H5 HH
  obtain ⟨a5, ha5⟩ : ∃ a5, a5 = rdA t (rdA t 0 8) 2 := ⟨_, rfl⟩
  rw [← ha5] at H5 HL0
  obtain ⟨B, hB⟩ : ∃ B, B = w2.heap.size := ⟨_, rfl⟩
  obtain ⟨X, hX⟩ : ∃ X, X = w.heap.size := ⟨_, rfl⟩
  obtain ⟨AA, hAA⟩ : ∃ AA, AA = w1.heap.size := ⟨_, rfl⟩
  rw [← hB, ← hX, ← hAA] at H5
  have hlow' : w.heap.size ≤ AA := by rw [hAA]; exact hlow
  have HWL := Lib.hid hlow'
  rw [← hB, ← hX, ← hAA]
  clear hB hX hAA hlow hl5 ha5 H3 H4 K1 CN HW1 HW3 hlow'
  go_wp2
  go_loopw [8, 18] (fun q i wr => ∃ (k a : Nat) (v : Value) (l : List Int) (last p0 : Int) (g : Nat → Option VoteT) (f : Nat → Nat), k ≤ nn ∧ q = .int .i64 last ∧ i = .int .i64 k ∧ RS W wr t X R B AA a v l p0 g f ∧ (l = [] → ldHead t ∧ ldLoop t p k = some (a, last, g)) ∧ (l ≠ [] → ¬ ldHead t) ∧ -9223372036854775808 ≤ last ∧ last ≤ 9223372036854775807) (fun _ i _ => nn - (intOf i).toNat)
  case atStart => exact ⟨0, a5, v5, l5, -1, 0, _, _, Nat.zero_le _, rfl, rfl, H5.out, fun h => ⟨HH.out.1 h, HL0.out⟩, fun h hh => h (HH.out.2 hh), by omega, by omega⟩
  case round =>
    obtain ⟨k, a, v, l, last, p0, g, f, hk, rfl, rfl, hS, hg1, hg2, hl0, hl1⟩ := hrel
    clear HH HL0 H5
    have S0 := Lib.hid hS
    have G1 := Lib.hid hg1
    have G2 := Lib.hid hg2
    clear hS hg1 hg2
    by_cases hlt : k < nn
    · have i0 : (0 : Int) ≤ (k : Int) := by omega
      have i1 : (k : Int) < (nn : Int) := by omega
      obtain ⟨E, hE⟩ := S0.out.es
      have Q1 := Lib.hid (num_calls W wr X R B a t v l E 2 S0.out.n S0.out.rd ht S0.out.bx S0.out.er S0.out.lo hE (by omega) (by omega))
      clear hE
      go_wp2_with fail
      (with_reducible refine Q1.out.mono ?_)
      rintro r w6 hP
      obtain ⟨v6, rfl, hS6, -⟩ := S0.out.num hP
      have S6 := Lib.hid hS6
      clear hP hS6 Q1
      obtain ⟨E6, hE6⟩ := S6.out.es
      have Q2 := Lib.hid (num_calls W w6 X R B _ t v6 _ E6 8 S6.out.n S6.out.rd ht S6.out.bx S6.out.er S6.out.lo hE6 (by omega) (by omega))
      clear hE6
      go_wp2_with fail
      (with_reducible refine Q2.out.mono ?_)
      rintro r w7 hP
      obtain ⟨v7, rfl, hS7, -⟩ := S6.out.num hP
      have bs1 := rdN_bd t a 2
      have bs2 := rdN_bd t (rdA t a 2) 8
      have HX : Hid (ldX t a = ⟨rdN t a 2, rdN t (rdA t a 2) 8, rtS t (rdA t (rdA t a 2) 8)⟩) := Lib.hid rfl
      have HLA : Hid (ldA t a = rtA t (rdA t (rdA t a 2) 8)) := Lib.hid rfl
      have HO : Hid (ldOk t p a last ↔ rdL t a 2 = [] ∧ rdL t (rdA t a 2) 8 = [] ∧ rtL t (rdA t (rdA t a 2) 8) = [] ∧ last < (ldX t a).s ∧ (ldX t a).b ≤ p ∧ accE 0 (ldX t a) = 0) := Lib.hid Iff.rfl
      have LY := Lib.hid (fun h1 h2 => ld_step_yes (t := t) (p := p) (k := k) (a := a) (last := last) (g := g) h1 h2)
      have BAD : Hid (¬ ldOk t p a last → ldAcc t = none) := Lib.hid (fun hno => by
        by_cases hl : l = []
        · obtain ⟨h1, h2⟩ := G1.out hl
          rw [HPE.out] at h2 hno
          exact ldAcc_mid h2 hno (by have := HNE.out; omega)
        · exact ldAcc_bad (G2.out hl))
      generalize rdN t a 2 = sl at *
      generalize hm1 : rdL t a 2 = mm1 at *
      generalize hm2 : rdL t (rdA t a 2) 8 = mm2 at *
      generalize rdN t (rdA t a 2) 8 = bb at *
      generalize rdA t (rdA t a 2) 8 = a2 at *
      have S7 := Lib.hid hS7
      have FN : Hid (firstL (firstL l mm1) mm2 = [] ↔ (l = [] ∧ mm1 = []) ∧ mm2 = []) := Lib.hid (by rw [firstL_nil, firstL_nil])
      generalize firstL (firstL l mm1) mm2 = l7 at *
      clear hP hS7 Q2 S6 S0 hm1 hm2
      obtain ⟨w8, hw8⟩ : ∃ w8, w8 = w7.alloc (.cells #[.int .i64 sl, .int .i64 bb, .string ⟨#[]⟩] 33) := ⟨_, rfl⟩
      have m8 : Mod [] w7 w8 := by rw [hw8]; exact (Mod.refl _ _).alloc _
      obtain ⟨c, hc⟩ : ∃ c, c = w7.heap.size := ⟨_, rfl⟩
      have C8 : Arr w8 c 33 3 (VoteT.cF ⟨sl, bb, ⟨#[]⟩⟩) := by rw [hw8, hc]; exact vote_new w7 _ ⟨sl, bb, ⟨#[]⟩⟩
      have hfc : ∀ i x, i < 4096 → g i = some x → f i ≠ c := fun i x hi hx => by
        have := (S7.out.ac.vote i x hi hx).2.2.lt
        omega
      have hlc : W.heap.size ≤ c := by rw [hc]; exact S7.out.n.le
      have S8 := Lib.hid (S7.out.step0 m8)
      have D8 := Lib.hid (And.intro C8 (And.intro hfc hlc))
      have HW8 := Lib.hid hw8
      have HC := Lib.hid hc
      have b0 := S8.out.bx.cell 0 (by omega)
      rw [hw8] at b0
      have Q3 := Lib.hid (rtextN S8.out.n S8.out.rd ht)
      clear hw8 m8 C8 hfc hlc hc
      go_wp2_with fail
      rw [← HW8.out, ← HC.out]
      (with_reducible refine Q3.out.mono ?_)
      rintro r w9 ⟨v9, E9, rfl, hE9, hx9, hR9, m9, hN9⟩
      have S9 := Lib.hid (S8.out.rdm hR9 m9 hN9)
      have C9 := Lib.hid (D8.out.1.mod m9 (by simpa using arr_ne D8.out.1 S8.out.rd.h (by decide)))
      have hcB : c ≠ B := arr_ne C9.out S9.out.er (by decide)
      have hcA : c ≠ AA := arr_ne C9.out S9.out.ac.arr (by decide)
      have hAB : AA ≠ B := arr_ne S9.out.ac.arr S9.out.er (by decide)
      have T9 := Lib.hid ((S9.out.setC C9.out D8.out.2.2 D8.out.2.1 2 (.string (rtS t a2))).setP 0)
      have C10 := Lib.hid ((((C9.out.set 2 (.string (rtS t a2))).congr (g := VoteT.cF ⟨sl, bb, rtS t a2⟩) (fun i hi => by
        match i, hi with
        | 0, _ | 1, _ | 2, _ => rfl)).mod ((Mod.refl [AA] _).setCell (p := ⟨AA, 0, none⟩) (.inl (by simp)) (.int .i64 0)) (by simpa using hcA)))
      have hE10 := hE9.modS ((Mod.refl [c] w9).setCell (p := ⟨c, 2, none⟩) (.inl (by simp)) (.string (rtS t a2))) (fun x hx => by simp at hx; subst hx; exact ⟨_, _, _, C9.out, by decide⟩)
      have hE11 := hE10.modS ((Mod.refl [AA] _).setCell (p := ⟨AA, 0, none⟩) (.inl (by simp)) (.int .i64 0)) (fun x hx => by simp at hx; subst hx; exact ⟨_, _, _, (S9.out.setC C9.out D8.out.2.2 D8.out.2.1 2 (.string (rtS t a2))).ac.arr, by decide⟩)
      have k2 := C9.out.cell 2 (by omega)
      have z2 := C9.out.free 2
      have kA := S9.out.ac.c0
      have zA := S9.out.ac.arr.free 0
      have kB := S9.out.er.cell 0 (by omega)
      have k0 := C9.out.cell 0 (by omega)
      have k1 := C9.out.cell 1 (by omega)
      unfold VoteT.cF at k0 k1 k2
      simp only [if_true, if_false, Nat.reduceEqDiff] at k0 k1 k2
      obtain ⟨w10, hw10⟩ : ∃ w10, w10 = (w9.setCell ⟨c, 2, none⟩ (.string (rtS t a2))).setCell ⟨AA, 0, none⟩ (.int .i64 0) := ⟨_, rfl⟩
      rw [← hw10] at T9 C10 hE11
      have HW10 := Lib.hid hw10
      have HE9 := Lib.hid hE11
      have hes := hE9.isNil
      have hif := hE9.iface
      obtain ⟨E7, hE7⟩ := T9.out.es
      have hvn := hE7.isNil
      have hvi := hE7.iface
      have HE7 := Lib.hid hE7
      clear hE9 hx9 hR9 m9 hN9 hE10 hE11 hw10 hE7 Q3 S8 b0
      have N7 : Hid (l7 ≠ [] → ldAcc t = none) := Lib.hid (fun h7 => by
        by_cases hl : l = []
        · exact BAD.out (fun ho => h7 (FN.out.2 ⟨⟨hl, (HO.out.1 ho).1⟩, (HO.out.1 ho).2.1⟩))
        · exact ldAcc_bad (G2.out hl))
      have FA : Hid (ldAcc t = none → ∀ u lu Eu w', Errs w10 u lu Eu → lu ≠ [] → Mod [] w10 w' → ReadPost W w R t (.returned (.tuple #[.pointer none, u])) w') := Lib.hid (fun hno u lu Eu w' hu hl m => ReadPost.no (T9.out.n.step0 m) hno (hu.mod0 m) hl)
      by_cases h7 : l7 = []
      rotate_left
      · rcases hvi with rfl | ⟨ty, xv, rfl⟩
        · exact absurd (hvn.2 rfl) h7
        have F := Lib.hid (fun w' m => FA.out (N7.out h7) _ _ _ w' HE7.out h7 m)
        clear hvn hes h7
        go_wp2
        go_quiet (fail)
        go_wp2
        go_ret2
        exact F.out _ (by rw [HW10.out]; exact (Mod.refl _ _).drewN _)
      · obtain rfl : v7 = .nilIface := hvn.1 h7
        obtain ⟨⟨hl, hq1⟩, hq2⟩ := FN.out.1 h7
        obtain ⟨hd, hlp⟩ := G1.out hl
        by_cases h9 : rtL t a2 = []
        rotate_left
        · have hno := Lib.hid (BAD.out (fun ho => h9 (HO.out.1 ho).2.2.1))
          rcases hif with rfl | ⟨ty, xv, rfl⟩
          · exact absurd (hes.2 rfl) h9
          have F := Lib.hid (fun w' m => FA.out hno.out _ _ _ w' HE9.out h9 m)
          clear hvn hes h9 h7 hl hq1 hq2 hd hlp hvi
          go_wp2
          (try go_quiet (fail))
          (try go_wp2)
          go_ret2
          exact F.out _ (by rw [HW10.out]; exact Mod.refl _ _)
        · obtain rfl : v9 = .nilIface := hes.1 h9
          have hxs : (rtS t a2).size ≤ 9223372036854775807 := Nat.le_trans (rtS_size ht) (by omega)
          generalize rtS t a2 = ss at *
          have F1 : ¬ ldOk t p a last → ∀ w', Mod [] w10 w' → ReadPost W w R t (.returned (.tuple #[.pointer none, .iface 22 (.int .i64 1)])) w' := fun hno w' m => FA.out (BAD.out hno) _ [1] [] w' .num (by simp) m
          have HF1 := Lib.hid F1
          have H7 := Lib.hid h7
          clear hvn hes h7 hvi hif F1
          by_cases c1 : last < sl
          rotate_left
          · have F := Lib.hid (HF1.out (fun ho => c1 (by have := (HO.out.1 ho).2.2.2.1; rw [HX.out] at this; exact this)))
            clear h9 hl hq1 hq2 hd hlp
            go_wp2
            go_ret2
            exact F.out _ (by rw [HW10.out]; exact Mod.refl _ _)
          by_cases c2 : bb ≤ p
          rotate_left
          · have F := Lib.hid (HF1.out (fun ho => c2 (by have := (HO.out.1 ho).2.2.2.2.1; rw [HX.out] at this; exact this)))
            have t2 : p < bb := by omega
            clear h9 hl hq1 hq2 hd hlp
            go_wp2
            go_ret2
            exact F.out _ (by rw [HW10.out]; exact Mod.refl _ _)
          have t1 : ¬ sl ≤ last := by omega
          have t2 : ¬ p < bb := by omega
          have Q4 := Lib.hid (accept_calls w10 AA 0 g f ⟨sl, bb, ss⟩ T9.out.ac hxs)
          have HOK : Hid (accE 0 ⟨sl, bb, ss⟩ = 0 → ldOk t p a last) := Lib.hid (fun he => HO.out.2 ⟨hq1, hq2, h9, by rw [HX.out]; exact c1, by rw [HX.out]; exact c2, by rw [HX.out]; exact he⟩)
          have HD := Lib.hid (And.intro hd hlp)
          have HQ9 := Lib.hid h9
          clear h9 hl hq1 hq2 hd hlp c1 c2
          go_wp2_with fail
          rw [← HW10.out]
          (with_reducible refine Q4.out.mono ?_)
          rintro r w11 ⟨f', rfl, hA', m11⟩
          by_cases he : accE 0 ⟨sl, bb, ss⟩ = 0
          rotate_left
          · have he' : (accE 0 ⟨sl, bb, ss⟩ != 0) = true := by simpa using he
            have F := Lib.hid (HF1.out (fun ho => he (by have := (HO.out.1 ho).2.2.2.2.2; rw [HX.out] at this; exact this)))
            have F2 : Hid (ReadPost W w R t (.returned (.tuple #[.pointer none, .iface 22 (.int .i64 1)])) w11) := Lib.hid (ReadPost.no (T9.out.acm hA' m11).n (BAD.out (fun ho => he (by have := (HO.out.1 ho).2.2.2.2.2; rw [HX.out] at this; exact this))) (E := []) (l := [1]) .num (by simp))
            generalize accE 0 ⟨sl, bb, ss⟩ = ae at *
            clear hA' m11 he
            go_wp2
            go_ret2
            exact F2.out
          · have S11 := Lib.hid (T9.out.acm hA' m11)
            have j0 := (C10.out.mod m11 (by simpa using hcA)).cell 0 (by omega)
            unfold VoteT.cF at j0
            simp only [if_true] at j0
            have hlp2 := ld_step_yes HD.out.2 (HOK.out he)
            have hg2 : accG 0 g ⟨sl, bb, ss⟩ = setG g ⟨sl, bb, ss⟩ := by unfold accG; rw [if_pos he]; rfl
            rw [HX.out, HLA.out, ← hg2] at hlp2
            have HLP := Lib.hid hlp2
            rw [he]
            clear hA' m11 hlp2 hg2 he
            go_wp2
            go_roundw
            case rel => exact ⟨k + 1, _, _, _, sl, _, _, f', by omega, rfl, by go_num, S11.out, fun _ => ⟨HD.out.1, HLP.out⟩, fun h => absurd H7.out h, by omega, by omega⟩
            case measure => simp [intOf]; omega
    · have i1 : ¬ (k : Int) < (nn : Int) := by omega
      have b0 := S0.out.bx.cell 0 (by omega)
      have e0 := S0.out.er.cell 0 (by omega)
      have z0 := S0.out.er.free 0
      have kA := S0.out.ac.c0
      have zA := S0.out.ac.arr.free 0
      have hAB : AA ≠ B := arr_ne S0.out.ac.arr S0.out.er (by decide)
      have hBA : B ≠ AA := Ne.symm hAB
      have hXB : X ≠ B := arr_ne S0.out.bx S0.out.er (by decide)
      obtain ⟨E0, hE0⟩ := S0.out.es
      have hvn := hE0.isNil
      have hvi := hE0.iface
      have HE0 := Lib.hid hE0
      clear hE0
      by_cases hl : l = []
      rotate_left
      · rcases hvi with rfl | ⟨ty, xv, rfl⟩
        · exact absurd (hvn.2 rfl) hl
        have hno := ldAcc_bad (G2.out hl)
        have SP := S0.out.setP p
        obtain ⟨E1, hE1⟩ := SP.es
        have F : Hid (∀ w', Mod [] (wr.setCell ⟨AA, 0, none⟩ (.int .i64 p)) w' → ReadPost W w R t (.returned (.tuple #[.pointer (some ⟨AA, 0, none⟩), .iface ty xv])) w') := Lib.hid (fun w' m => ReadPost.no (SP.n.step0 m) hno (hE1.mod0 m) hl)
        clear hvn hl hno SP hE1
        go_wp2
        go_quiet (fail)
        go_wp2
        go_ret2
        exact F.out _ ((Mod.refl _ _).drewN _)
      · obtain rfl : v = .nilIface := hvn.1 hl
        obtain ⟨hd, hlp⟩ := G1.out hl
        obtain rfl : k = nn := by omega
        have HD := Lib.hid (And.intro hd hlp)
        have Q1 := Lib.hid (rendN S0.out.n S0.out.rd ht)
        clear hvn hvi hl hd hlp
        go_wp2_with fail
        (with_reducible refine Q1.out.mono ?_)
        rintro r w6 ⟨v6, E6, rfl, hE6, hx6, m6, hN6⟩
        have S6 := Lib.hid (S0.out.step0 m6)
        have y0 := S6.out.er.cell 0 (by omega)
        have zz := S6.out.er.free 0
        have jA := S6.out.ac.c0
        have qA := S6.out.ac.arr.free 0
        have T6 := Lib.hid (S6.out.erm hE6)
        have hes := hE6.isNil
        have hif := hE6.iface
        clear hE6 hx6 m6 hN6 Q1
        by_cases he : endL t a = []
        rotate_left
        · rcases hif with rfl | ⟨ty, xv, rfl⟩
          · exact absurd (hes.2 rfl) he
          have hno : ldAcc t = none := ldAcc_end (a := a) (last := last) (g := g) (by rw [← HPE.out, ← HNE.out, Int.toNat_natCast]; exact HD.out.2) he
          have SP := T6.out.setP p
          obtain ⟨E1, hE1⟩ := SP.es
          have F : Hid (∀ w', Mod [] ((w6.setCell ⟨B, 0, none⟩ (.iface ty xv)).setCell ⟨AA, 0, none⟩ (.int .i64 p)) w' → ReadPost W w R t (.returned (.tuple #[.pointer (some ⟨AA, 0, none⟩), .iface ty xv])) w') := Lib.hid (fun w' m => ReadPost.no (SP.n.step0 m) hno (hE1.mod0 m) he)
          clear hes he hno SP hE1
          go_wp2
          go_quiet (fail)
          go_wp2
          go_ret2
          exact F.out _ ((Mod.refl _ _).drewN _)
        · obtain rfl : v6 = .nilIface := hes.1 he
          by_cases hpm : p ≤ 1099511627776
          · have t1 : ¬ 1099511627776 < p := by omega
            have hyes : ldAcc t = some (p, g) := by
              rw [HPE.out] at hpm ⊢
              exact ldAcc_yes (a := a) (last := last) HD.out.1 hpm (by rw [← HPE.out, ← HNE.out, Int.toNat_natCast]; exact HD.out.2) he
            have SP := T6.out.setP p
            have F : Hid (∀ w', Mod [] ((w6.setCell ⟨B, 0, none⟩ .nilIface).setCell ⟨AA, 0, none⟩ (.int .i64 p)) w' → ReadPost W w R t (.returned (.tuple #[.pointer (some ⟨AA, 0, none⟩), .nilIface])) w') := Lib.hid (fun w' m => ReadPost.yes (SP.n.step0 m) hyes (SP.ac.mod m) HWL.out)
            clear hes hif he hyes SP hpm
            go_wp2
            go_quiet (fail)
            go_wp2
            go_ret2
            exact F.out _ ((Mod.refl _ _).drewN _)
          · have t1 : 1099511627776 < p := by omega
            have hno : ldAcc t = none := ldAcc_high (by rw [← HPE.out]; exact hpm)
            have U6 := T6.out.erm (v' := .iface 22 (.int .i64 1)) (l' := [1]) (E' := []) .num
            have SP := U6.setP p
            obtain ⟨E1, hE1⟩ := SP.es
            have F : Hid (∀ w', Mod [] (((w6.setCell ⟨B, 0, none⟩ .nilIface).setCell ⟨B, 0, none⟩ (.iface 22 (.int .i64 1))).setCell ⟨AA, 0, none⟩ (.int .i64 p)) w' → ReadPost W w R t (.returned (.tuple #[.pointer (some ⟨AA, 0, none⟩), .iface 22 (.int .i64 1)])) w') := Lib.hid (fun w' m => ReadPost.no (SP.n.step0 m) hno (hE1.mod0 m) (by simp))
            clear hes hif he hno SP hE1 U6 hpm
            go_wp2
            go_quiet (fail)
            go_wp2
            go_ret2
            exact F.out _ ((Mod.refl _ _).drewN _)
end Go.Proofs.YtphcoenooinmfaaDoor
