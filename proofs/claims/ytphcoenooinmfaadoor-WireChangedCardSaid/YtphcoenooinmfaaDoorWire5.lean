/- Package wire's Decode: what it comes to. Premises: the listed variables are as laid. (Written by wip/tools/genWire5.py.) -/
import Derived.Test.YtphcoenooinmfaaDoorWire4
namespace Go.Proofs.YtphcoenooinmfaaDoor
open Go.RowKit
set_option linter.unusedVariables false
set_option linter.unusedSimpArgs false
attribute [local go_sem ↓] Go.wp_at_zero Go.wp_at_succ

def DecPost (w : World) (s : ByteArray) (r : Ending) (w' : World) : Prop :=
  ∃ v E, r = .returned (.tuple #[.agg (decR s).arr, v]) ∧ Errs w' v (decL s) E ∧ Mod [] w w'
def zeroA : Array Value := #[.int .i64 0, .int .i64 0, .int .i64 0, .int .i64 0, .int .i64 0, .int .i64 0, .int .i64 0, .string ⟨#[]⟩]
def zeroF (i : Nat) : Value := if i = 7 then .string ⟨#[]⟩ else .int .i64 0
theorem zero_arr (w : World) : Arr (w.alloc (.cells zeroA 62)) w.heap.size 62 8 zeroF :=
  Arr.new' w zeroA _ 8 _ rfl (fun i hi => by
    match i, hi with
    | 0, _ | 1, _ | 2, _ | 3, _ | 4, _ | 5, _ | 6, _ | 7, _ => rfl)
theorem body_le (s : ByteArray) : (bodyB s).size ≤ s.size := by
  unfold bodyB
  split
  · simp
  · exact Nat.zero_le _
theorem stepA_le (t : ByteArray) (j : Nat) : stepA t j ≤ t.size := by
  unfold stepA
  split
  · exact decA_le t j
  · exact rtA_le (decA_le t 7)
theorem DecSt.to {w : World} {rb mb : Nat} {t : ByteArray} {a a' : Nat} {f f' : Nat → Value} (h : DecSt w rb mb t a f) (ea : a = a') (ef : ∀ i, i < 8 → f i = f' i) : DecSt w rb mb t a' f' := by
  subst ea
  exact ⟨h.r, h.m.congr ef, h.ne⟩
theorem StepPost.to {w w' : World} {rb mb : Nat} {t : ByteArray} {l l' : List Int} {a a' : Nat} {f f' : Nat → Value} {r : Ending} (h : StepPost w rb mb t l a f r w') (el : l = l') (ea : a = a') (ef : ∀ i, i < 8 → f i = f' i) : StepPost w rb mb t l' a' f' r w' := by
  subst el
  obtain ⟨v, E, h1, h2, h3, h4, h5⟩ := h
  exact ⟨v, E, h1, h2, h3, h4.to ea ef, h5⟩
/-- Step j < 7, as the loop has it. -/
theorem st_lo {w : World} {rbox cj rb mb j : Nat} {t : ByteArray} (hj : j < 7) (hS : DecSt w rb mb t (stepA t j) (stepF t j)) (hrx : Arr w rbox 125 1 (fun _ => .pointer (some ⟨rb, 0, none⟩))) (hco : Arr w cj 104 2 (colC mb j)) (hs : t.size ≤ 1000000) (h1 : rbox ∉ [rb, mb]) (h2 : cj ∉ [rb, mb]) :
    Calls Tryd.prog 82 #[.pointer (some ⟨rbox, 0, none⟩), .pointer (some ⟨cj, 0, none⟩)] w (StepPost w rb mb t (stepE t j) (stepA t (j + 1)) (stepF t (j + 1))) := by
  have e1 : stepA t j = decA t j := by unfold stepA; rw [if_pos (by omega)]
  have e2 : stepA t (j + 1) = rdA t (decA t j) (wid j) := by unfold stepA; rw [if_pos (by omega)]; rfl
  have e3 : stepE t j = rdL t (decA t j) (wid j) := by unfold stepE; rw [if_pos hj]; rfl
  have e4 : stepF t j = midF t j := by unfold stepF; rw [if_pos (by omega)]
  have e5 : stepF t (j + 1) = midF t (j + 1) := by unfold stepF; rw [if_pos (by omega)]
  rw [e1, e4] at hS
  rw [e2, e3, e5]
  refine (step1_calls w rbox cj rb mb j t (decA t j) (midF t j) hj hS hrx hco (decA_le t j) hs h1 h2).mono fun r w' h => h.to rfl rfl ?_
  intro i hi
  exact midF_succ t j hj i hi
theorem st_7 {w : World} {rbox mbox rb mb : Nat} {t : ByteArray} (hS : DecSt w rb mb t (stepA t 7) (stepF t 7)) (hE : ErrT w) (hrx : Arr w rbox 125 1 (fun _ => .pointer (some ⟨rb, 0, none⟩))) (hmx : Arr w mbox 101 1 (fun _ => .pointer (some ⟨mb, 0, none⟩))) (hs : t.size ≤ 1000000) (h1 : rbox ∉ [rb, mb]) (h2 : mbox ∉ [rb, mb]) :
    Calls Tryd.prog 84 #[.pointer (some ⟨rbox, 0, none⟩), .pointer (some ⟨mbox, 0, none⟩)] w (StepPost w rb mb t (stepE t 7) (stepA t (7 + 1)) (stepF t (7 + 1))) := by
  have e1 : stepA t 7 = decA t 7 := by unfold stepA; rw [if_pos (by omega)]
  have e2 : stepA t (7 + 1) = rtA t (decA t 7) := by unfold stepA; rw [if_neg (by omega)]
  have e3 : stepE t 7 = rtL t (decA t 7) := by unfold stepE; rw [if_neg (by omega), if_pos rfl]
  have e4 : stepF t 7 = midF t 7 := by unfold stepF; rw [if_pos (by omega)]
  have e5 : stepF t (7 + 1) = (decM t).cellF := by unfold stepF; rw [if_neg (by omega)]
  rw [e1, e4] at hS
  rw [e2, e3, e5]
  exact (step2_calls w rbox mbox rb mb t (decA t 7) (midF t 7) hS hE hrx hmx (decA_le t 7) hs h1 h2).mono fun r w' h => h.to rfl rfl (midF_7 t)
theorem st_8 {w : World} {rb mb : Nat} {t : ByteArray} (hS : DecSt w rb mb t (stepA t 8) (stepF t 8)) (hs : t.size ≤ 1000000) :
    Calls Tryd.prog 86 #[.pointer (some ⟨rb, 0, none⟩)] w (StepPost w rb mb t (stepE t 8) (stepA t (8 + 1)) (stepF t (8 + 1))) := by
  have e1 : stepA t 8 = rtA t (decA t 7) := by unfold stepA; rw [if_neg (by omega)]
  have e2 : stepA t (8 + 1) = rtA t (decA t 7) := by unfold stepA; rw [if_neg (by omega)]
  have e3 : stepE t 8 = endL t (rtA t (decA t 7)) := by unfold stepE; rw [if_neg (by omega), if_neg (by omega), if_pos rfl]
  have e4 : stepF t 8 = (decM t).cellF := by unfold stepF; rw [if_neg (by omega)]
  have e5 : stepF t (8 + 1) = (decM t).cellF := by unfold stepF; rw [if_neg (by omega)]
  rw [e1, e4] at hS
  rw [e2, e3, e5]
  exact (rend_calls w rb t _ hS.r (rtA_le (decA_le t 7)) hs).mono fun r w' ⟨v, E, h1, h2, h3, m⟩ => ⟨v, E, h1, h2, h3, ⟨hS.r.mod0 m, hS.m.mod m (by simp), hS.ne⟩, m.nil⟩
theorem st_9 {w : World} {mbox rb mb : Nat} {t : ByteArray} (hS : DecSt w rb mb t (stepA t 9) (stepF t 9)) (hmx : Arr w mbox 101 1 (fun _ => .pointer (some ⟨mb, 0, none⟩))) :
    Calls Tryd.prog 87 #[.pointer (some ⟨mbox, 0, none⟩)] w (StepPost w rb mb t (stepE t 9) (stepA t (9 + 1)) (stepF t (9 + 1))) := by
  have e1 : stepA t 9 = rtA t (decA t 7) := by unfold stepA; rw [if_neg (by omega)]
  have e2 : stepA t (9 + 1) = rtA t (decA t 7) := by unfold stepA; rw [if_neg (by omega)]
  have e3 : stepE t 9 = chkL (decM t) := by unfold stepE; rw [if_neg (by omega), if_neg (by omega), if_neg (by omega)]
  have e4 : stepF t 9 = (decM t).cellF := by unfold stepF; rw [if_neg (by omega)]
  have e5 : stepF t (9 + 1) = (decM t).cellF := by unfold stepF; rw [if_neg (by omega)]
  rw [e1, e4] at hS
  rw [e2, e3, e5]
  exact step3_calls w mbox rb mb t _ (decM t).x (decM t).d hS hmx
theorem st_7' {w : World} {rbox mbox rb mb j : Nat} {t : ByteArray} (hj : j = 7) (hS : DecSt w rb mb t (stepA t j) (stepF t j)) (hE : ErrT w) (hrx : Arr w rbox 125 1 (fun _ => .pointer (some ⟨rb, 0, none⟩))) (hmx : Arr w mbox 101 1 (fun _ => .pointer (some ⟨mb, 0, none⟩))) (hs : t.size ≤ 1000000) (h1 : rbox ∉ [rb, mb]) (h2 : mbox ∉ [rb, mb]) :
    Calls Tryd.prog 84 #[.pointer (some ⟨rbox, 0, none⟩), .pointer (some ⟨mbox, 0, none⟩)] w (StepPost w rb mb t (stepE t j) (stepA t (j + 1)) (stepF t (j + 1))) := by
  subst hj
  exact st_7 hS hE hrx hmx hs h1 h2
theorem st_8' {w : World} {rb mb j : Nat} {t : ByteArray} (hj : j = 8) (hS : DecSt w rb mb t (stepA t j) (stepF t j)) (hs : t.size ≤ 1000000) :
    Calls Tryd.prog 86 #[.pointer (some ⟨rb, 0, none⟩)] w (StepPost w rb mb t (stepE t j) (stepA t (j + 1)) (stepF t (j + 1))) := by
  subst hj
  exact st_8 hS hs
theorem st_9' {w : World} {mbox rb mb j : Nat} {t : ByteArray} (hj : j = 9) (hS : DecSt w rb mb t (stepA t j) (stepF t j)) (hmx : Arr w mbox 101 1 (fun _ => .pointer (some ⟨mb, 0, none⟩))) :
    Calls Tryd.prog 87 #[.pointer (some ⟨mbox, 0, none⟩)] w (StepPost w rb mb t (stepE t j) (stepA t (j + 1)) (stepF t (j + 1))) := by
  subst hj
  exact st_9 hS hmx
theorem stepE_len (t : ByteArray) (j : Nat) : (stepE t j).length ≤ 900 := by
  unfold stepE
  split
  · have := rdL_len t (decA t j) (wid j); unfold decE; omega
  · split
    · unfold rtL
      have := rdL_len t (decA t 7) 2
      split
      · rw [List.length_append]; omega
      · split
        · simp
        · split <;> simp
    · split
      · unfold endL; split <;> simp
      · unfold chkL; split <;> simp
set_option maxRecDepth 100000 in
set_option maxHeartbeats 2000000 in
theorem decode_calls (w : World) (s : ByteArray) (hs : s.size ≤ 100000) (hT : Steps w) (hE : ErrT w) :
    Calls Tryd.prog 35 #[.string s] w (DecPost w s) := by
  obtain ⟨w0, hw0⟩ : ∃ w0, w0 = w.alloc (.cells zeroA 62) := ⟨_, rfl⟩
  have m0 : Mod [] w w0 := by rw [hw0]; exact (Mod.refl _ _).alloc _
  have A0 : Arr w0 w.heap.size 62 8 zeroF := by rw [hw0]; exact zero_arr w
  have O := Lib.hid (open_calls w0 s (by omega) (hT.mod m0 (by simp)))
  have HA0 := Lib.hid A0
  have M0 := Lib.hid m0
  have HE := Lib.hid (hE.mod m0 (by simp))
  unfold zeroA at hw0
  have HZ := Lib.hid hw0
  have hz0 : w.heap.size < w0.heap.size := A0.lt
  unfold OpenPost at O
  have hts := body_le s
  obtain ⟨t, ht⟩ : ∃ t, t = bodyB s := ⟨_, rfl⟩
  have HTB := Lib.hid ht
  rw [← ht] at O hts
  clear hw0 A0 m0 hT hE ht
  cases hk : okB s with
  | false =>
    rw [hk] at O
    have e1 : decL s = [20] := by unfold decL; rw [if_pos hk]
    have e2 : decR s = Msg.zero := by unfold decR; rw [e1, if_neg (by simp)]
    have E1 := Lib.hid e1
    have E2 := Lib.hid e2
    clear e1 e2 hk
    go_enter Tryd.func35, Tryd.ntmps35
    go_wp2_with fail
    rw [← HZ.out]
    refine O.out.mono ?_
    rintro e w1 ⟨rfl, m1⟩
    have M1 := Lib.hid (M0.out.trans m1)
    have A1 := Lib.hid (HA0.out.mod m1 (by simp))
    clear m1
    go_wp2_with fail
    refine (wrapE_calls w1 20 0 .nilIface [] [] (by omega) .nil).mono ?_
    rintro r w2 ⟨v, rfl, hE2, m2⟩
    have A2 := A1.out.mod m2 (by simp)
    have r0 := A2.cell 0 (by omega)
    have r1 := A2.cell 1 (by omega)
    have r2 := A2.cell 2 (by omega)
    have r3 := A2.cell 3 (by omega)
    have r4 := A2.cell 4 (by omega)
    have r5 := A2.cell 5 (by omega)
    have r6 := A2.cell 6 (by omega)
    have r7 := A2.cell 7 (by omega)
    have g0 := A2.free 0
    have g1 := A2.free 1
    have g2 := A2.free 2
    have g3 := A2.free 3
    have g4 := A2.free 4
    have g5 := A2.free 5
    have g6 := A2.free 6
    have g7 := A2.free 7
    simp only [zeroF, if_true, if_false, Nat.reduceEqDiff] at r0 r1 r2 r3 r4 r5 r6 r7
    have F : Hid (∀ w3, Mod [w.heap.size] w2 w3 → DecPost w s (.returned (.tuple #[.agg zeroA, v])) w3) := Lib.hid (fun w3 m3 => ⟨v, _, by rw [E2.out]; rfl, by rw [E1.out]; exact hE2.mod m3 (fun x hx => by have h9 := M1.out.size; have h8 := A1.out.lt; simp at hx; simp; omega), (M1.out.trans m2).fresh m3 (fun x hx => .inr (by simp at hx; omega))⟩)
    clear hE2 m2 A2
    go_wp2
    (try simp only [Exit.inBlock, Exit.then])
    refine bodyPost_ret (v := .tuple #[.agg #[.int .i64 0, .int .i64 0, .int .i64 0, .int .i64 0, .int .i64 0, .int .i64 0, .int .i64 0, .string ⟨#[]⟩], v]) ?_ rfl ?_
    · rw [results_cell_tmp rfl]
      go_simp
    · refine F.out _ ?_
      repeat (first | (with_reducible exact Mod.refl _ _) | (with_reducible refine Mod.setCell ?_ (.inl (by simp)) _))
  | true =>
    rw [hk] at O
    have e1 : decL s = errFrom t 0 := by rw [HTB.out]; unfold decL; rw [if_neg (by rw [hk]; simp), err_lt (by omega)]
    have e2 : decL s ≠ [] → decR s = Msg.zero := fun h => by unfold decR; rw [if_neg h]
    have e3 : decL s = [] → decR s = decM t := fun h => by rw [HTB.out]; unfold decR; rw [if_pos h]
    have E1 := Lib.hid e1
    have E2 := Lib.hid e2
    have E3 := Lib.hid e3
    clear e1 e2 e3 hk
    go_enter Tryd.func35, Tryd.ntmps35
    go_wp2_with fail
    rw [← HZ.out]
    refine O.out.mono ?_
    rintro e w1 ⟨rfl, m1⟩
    have M1 := Lib.hid (M0.out.trans m1)
    have A1 := Lib.hid (HA0.out.mod m1 (by simp))
    have T1 := Lib.hid (HE.out.mod m1 (by simp))
    clear m1
    go_wp2_with fail
    refine (newReader_calls w1 t).mono ?_
    rintro e w2 ⟨rfl, hR2, m2⟩
    obtain ⟨rb, hrb⟩ : ∃ rb, rb = w1.heap.size := ⟨_, rfl⟩
    rw [← hrb] at hR2 ⊢
    obtain ⟨w3, hw3⟩ : ∃ w3, w3 = w2.alloc (.cells zeroA 62) := ⟨_, rfl⟩
    have m3 : Mod [] w2 w3 := by rw [hw3]; exact (Mod.refl _ _).alloc _
    have B3 : Arr w3 w2.heap.size 62 8 zeroF := by rw [hw3]; exact zero_arr w2
    obtain ⟨mb, hmb⟩ : ∃ mb, mb = w2.heap.size := ⟨_, rfl⟩
    rw [← hmb] at B3
    have hrl : rb < w2.heap.size := Arr.lt hR2
    have hml : mb < w3.heap.size := B3.lt
    have hne : rb ≠ mb := by omega
    have hlo : w.heap.size < rb := by have := A1.out.lt; omega
    have hlo2 : w.heap.size < mb := by omega
    have A3 := Lib.hid ((A1.out.mod m2 (by simp)).mod m3 (by simp))
    have T3 := Lib.hid ((T1.out.mod m2 (by simp)).mod m3 (by simp))
    have M3 := Lib.hid ((M1.out.trans m2).trans m3)
    have S3 : Hid (DecSt w3 rb mb t (stepA t 0) (stepF t 0)) := Lib.hid ⟨hR2.mod0 m3, B3.congr fun i hi => by
      have e9 : stepF t 0 = midF t 0 := by unfold stepF; rw [if_pos (by omega)]
      rw [e9]
      unfold midF zeroF
      by_cases h7 : i = 7
      · rw [if_pos h7, if_pos h7, if_pos (by omega)]
      · rw [if_neg h7, if_neg h7, if_neg (by omega)], hne⟩
    unfold zeroA at hw3
    have HZ3 := Lib.hid hw3
    have HMB := Lib.hid hmb
    clear hR2 m2 m3 B3 hw3 hrb hmb
    go_wp2_with fail
    rw [← HMB.out, ← HZ3.out]
    refine (steps_calls w3 rb mb).mono ?_
    rintro e w4 ⟨⟨g, cap, rbox, mbox, cb, rfl, hcap, hcap2, hSt, hg, hrx, hmx, hcb⟩, m4⟩
    have A4 := Lib.hid (A3.out.mod m4 (by simp))
    have T4 := Lib.hid (T3.out.mod m4 (by simp))
    have M4 := Lib.hid (M3.out.trans m4)
    have S4 : Hid (DecSt w4 rb mb t (stepA t 0) (stepF t 0)) := Lib.hid ⟨S3.out.r.mod0 m4, S3.out.m.mod m4 (by simp), hne⟩
    have HST := Lib.hid hSt
    have HCB := Lib.hid hcb
    have hwr := HZ3
    have hrm : rb < w3.heap.size ∧ mb < w3.heap.size := ⟨by have := Arr.lt S3.out.r; exact this, hml⟩
    obtain ⟨hrm1, hrm2⟩ := hrm
    have x1 : rbox ∉ [rb, mb] := by simp; omega
    have x2 : mbox ∉ [rb, mb] := by simp; omega
    have x3 : g ∉ [rb, mb] := by simp; omega
    have x4 : ∀ j, j < 7 → cb j ∉ [rb, mb] := fun j hj => by have := HCB.out j hj; simp; omega
    have x5 : w.heap.size ∉ [rb, mb] := by simp; omega
    have X := Lib.hid (And.intro x1 (And.intro x2 (And.intro x3 (And.intro x4 x5))))
    have hz4 := m4.size
    clear hSt m4 hcb hwr x1 x2 x3 x4 x5
    go_wp2
    go_loopw [25] (fun i wr => ∃ j : Nat, j ≤ 10 ∧ i = .int .i64 j ∧ DecSt wr rb mb t (stepA t j) (stepF t j) ∧ Mod [rb, mb] w4 wr ∧ errFrom t 0 = errFrom t j) (fun i _ => 10 - (intOf i).toNat)
    case atStart => exact ⟨0, by omega, rfl, S4.out, Mod.refl _ _, rfl⟩
    case round =>
      obtain ⟨j, hj, rfl, hS, hM, hE⟩ := hrel
      have HS := Lib.hid hS
      have HM := Lib.hid hM
      have HEE := Lib.hid hE
      have ST := Lib.hid (HST.out.mod hM X.out.2.2.1 X.out.1 X.out.2.1 X.out.2.2.2.1)
      have TT := Lib.hid (T4.out.mod hM (fun hx => by
        have h1 := T4.out.lt
        have h2 := HE.out.lt
        simp at hx; omega))
      have AA := Lib.hid (A4.out.mod hM X.out.2.2.2.2)
      have hzr := hM.size
      clear hS hM hE
      by_cases hlt : j < 10
      rotate_left
      · obtain rfl : j = 10 := by omega
        have hl : decL s = [] := by rw [E1.out, HEE.out, err_10]
        have hr := E3.out hl
        have HL := Lib.hid hl
        have HR := Lib.hid hr
        have hm10 := HS.out.m
        have e9 : stepF t 10 = (decM t).cellF := by unfold stepF; rw [if_neg (by omega)]
        rw [e9] at hm10
        obtain ⟨x, hx⟩ : ∃ x, x = (decM t).x := ⟨_, rfl⟩
        obtain ⟨d, hd⟩ : ∃ d, d = (decM t).d := ⟨_, rfl⟩
        have c0 : wr.cell? ⟨mb, 0, none⟩ = some (.int .i64 (x 0)) := by rw [hx]; exact hm10.cell 0 (by omega)
        have c1 : wr.cell? ⟨mb, 1, none⟩ = some (.int .i64 (x 1)) := by rw [hx]; exact hm10.cell 1 (by omega)
        have c2 : wr.cell? ⟨mb, 2, none⟩ = some (.int .i64 (x 2)) := by rw [hx]; exact hm10.cell 2 (by omega)
        have c3 : wr.cell? ⟨mb, 3, none⟩ = some (.int .i64 (x 3)) := by rw [hx]; exact hm10.cell 3 (by omega)
        have c4 : wr.cell? ⟨mb, 4, none⟩ = some (.int .i64 (x 4)) := by rw [hx]; exact hm10.cell 4 (by omega)
        have c5 : wr.cell? ⟨mb, 5, none⟩ = some (.int .i64 (x 5)) := by rw [hx]; exact hm10.cell 5 (by omega)
        have c6 : wr.cell? ⟨mb, 6, none⟩ = some (.int .i64 (x 6)) := by rw [hx]; exact hm10.cell 6 (by omega)
        have c7 : wr.cell? ⟨mb, 7, none⟩ = some (.string d) := by rw [hd]; exact hm10.cell 7 (by omega)
        have A2 := AA.out
        have r0 := A2.cell 0 (by omega)
        have r1 := A2.cell 1 (by omega)
        have r2 := A2.cell 2 (by omega)
        have r3 := A2.cell 3 (by omega)
        have r4 := A2.cell 4 (by omega)
        have r5 := A2.cell 5 (by omega)
        have r6 := A2.cell 6 (by omega)
        have r7 := A2.cell 7 (by omega)
        have g0 := A2.free 0
        have g1 := A2.free 1
        have g2 := A2.free 2
        have g3 := A2.free 3
        have g4 := A2.free 4
        have g5 := A2.free 5
        have g6 := A2.free 6
        have g7 := A2.free 7
        simp only [zeroF, if_true, if_false, Nat.reduceEqDiff] at r0 r1 r2 r3 r4 r5 r6 r7
        have hnw : w.heap.size ≠ mb := by omega
        have HX := Lib.hid (And.intro hx hd)
        have F : Hid (∀ w3', Mod [w.heap.size] wr w3' → DecPost w s (.returned (.tuple #[.agg (Msg.arr ⟨x, d⟩), .nilIface])) w3') := Lib.hid (fun w3' m3 => ⟨.nilIface, [], by rw [HR.out, HX.out.1, HX.out.2], by rw [HL.out]; exact .nil, (M4.out.fresh HM.out (fun x hx => .inr (by simp at hx; omega))).fresh m3 (fun x hx => .inr (by simp at hx; omega))⟩)
        clear hl hr hm10 e9 hx hd A2
        go_wp2
        (try simp only [Exit.inBlock, Exit.then])
        refine bodyPost_ret (v := .tuple #[.agg #[.int .i64 (x 0), .int .i64 (x 1), .int .i64 (x 2), .int .i64 (x 3), .int .i64 (x 4), .int .i64 (x 5), .int .i64 (x 6), .string d], .nilIface]) ?_ rfl ?_
        · rw [results_cell_tmp rfl]
          go_simp
        · refine F.out _ ?_
          repeat (first | (with_reducible exact Mod.refl _ _) | (with_reducible refine Mod.setCell ?_ (.inl (by simp)) _))
      by_cases h7 : j < 7
      · have i0 : (0 : Int) ≤ (j : Int) := by omega
        have i1 : (j : Int) < 10 := by omega
        have fc : wr.cell? ⟨g, j, none⟩ = some (.func (.func 82) #[] #[.pointer (some ⟨rbox, 0, none⟩), .pointer (some ⟨cb j, 0, none⟩)]) := by
          have := ST.out.fn.cell j (by omega)
          rw [this]
          unfold stepV
          rw [if_pos h7]
        have P := Lib.hid (st_lo h7 HS.out ST.out.rx (ST.out.co j h7) (by omega) X.out.1 (X.out.2.2.2.1 j h7))
        have cc1 : cap ≤ 9223372036854775807 := hcap2
        go_wp2_with fail
        refine P.out.mono ?_
        rintro r w5 ⟨v5, E5, rfl, hE5, hx5, hS5, m5⟩
        by_cases hl5 : stepE t j = []
        · rw [hl5] at hE5
          have hv5 : v5 = .nilIface := hE5.isNil.1 rfl
          subst hv5
          have Q := Lib.hid (And.intro hS5 (And.intro (HM.out.trans m5) (HEE.out.trans (err_ok (by omega) hl5))))
          clear hE5 hx5 hS5 m5 hl5
          go_wp2
          go_roundw
          case rel => exact ⟨j + 1, by omega, by go_num, Q.out.1, Q.out.2.1, Q.out.2.2⟩
          case measure => simp [intOf] <;> omega
        · have hbad : decL s = 30 :: stepE t j := by rw [E1.out, HEE.out, err_bad (by omega) hl5]
          have hr : decR s = Msg.zero := E2.out (by rw [hbad]; simp)
          have hv5 := hE5.iface
          have hv6 : v5 ≠ .nilIface := fun e => hl5 (hE5.isNil.2 e)
          have A5 := Lib.hid (AA.out.mod m5 X.out.2.2.2.2)
          have RA5 := Lib.hid (rat_calls w5 rb t _ hS5.r)
          have WR5 := Lib.hid (wrapE_calls w5 30 (stepA t (j + 1)) v5 (stepE t j) E5 (by omega) hE5)
          have M5 := Lib.hid (M4.out.fresh (HM.out.trans m5) (fun x hx => .inr (by simp at hx; omega)))
          have HX5 := Lib.hid hx5
          have HBAD := Lib.hid (And.intro hbad hr)
          have hz5 := m5.size
          generalize stepA t (j + 1) = a5 at RA5 WR5
          clear hE5 hx5 hS5 m5 hbad hr hl5
          rcases hv5 with rfl | ⟨T9, y9, rfl⟩
          · exact absurd rfl hv6
          clear hv6
          go_wp2_with fail
          refine RA5.out.mono ?_
          rintro r w6 ⟨rfl, rfl⟩
          go_wp2_with fail
          refine WR5.out.mono ?_
          rintro r w6 ⟨v6, rfl, hE6, m6⟩
          have A2 := A5.out.mod m6 (by simp)
          have r0 := A2.cell 0 (by omega)
          have r1 := A2.cell 1 (by omega)
          have r2 := A2.cell 2 (by omega)
          have r3 := A2.cell 3 (by omega)
          have r4 := A2.cell 4 (by omega)
          have r5 := A2.cell 5 (by omega)
          have r6 := A2.cell 6 (by omega)
          have r7 := A2.cell 7 (by omega)
          have g0 := A2.free 0
          have g1 := A2.free 1
          have g2 := A2.free 2
          have g3 := A2.free 3
          have g4 := A2.free 4
          have g5 := A2.free 5
          have g6 := A2.free 6
          have g7 := A2.free 7
          simp only [zeroF, if_true, if_false, Nat.reduceEqDiff] at r0 r1 r2 r3 r4 r5 r6 r7
          have F : Hid (∀ w7, Mod [w.heap.size] w6 w7 → DecPost w s (.returned (.tuple #[.agg zeroA, v6])) w7) := Lib.hid (fun w7 m7 => ⟨v6, _, by rw [HBAD.out.2]; rfl, by
            rw [HBAD.out.1]
            exact hE6.mod m7 (fun x hx => by
              rcases List.mem_cons.1 hx with e | e
              · simp; omega
              · have := HX5.out x e
                simp; omega), (M5.out.trans m6).fresh m7 (fun x hx => .inr (by simp at hx; omega))⟩)
          clear hE6 m6 A2
          go_wp2
          (try simp only [Exit.inBlock, Exit.then])
          refine bodyPost_ret (v := .tuple #[.agg #[.int .i64 0, .int .i64 0, .int .i64 0, .int .i64 0, .int .i64 0, .int .i64 0, .int .i64 0, .string ⟨#[]⟩], v6]) ?_ rfl ?_
          · rw [results_cell_tmp rfl]
            go_simp
          · refine F.out _ ?_
            repeat (first | (with_reducible exact Mod.refl _ _) | (with_reducible refine Mod.setCell ?_ (.inl (by simp)) _))
      have i0 : (0 : Int) ≤ (j : Int) := by omega
      have i1 : (j : Int) < 10 := by omega
      by_cases h8 : j = 7
      · have D7 := Lib.hid h8
        clear h8
        have fc : wr.cell? ⟨g, j, none⟩ = some (.func (.func 84) #[] #[.pointer (some ⟨rbox, 0, none⟩), .pointer (some ⟨mbox, 0, none⟩)]) := by
          have := ST.out.fn.cell j (by omega)
          rw [this]
          unfold stepV
          rw [if_neg h7, if_pos D7.out]
        have P := Lib.hid (st_7' D7.out HS.out TT.out ST.out.rx ST.out.mx (by omega) X.out.1 X.out.2.1)
        have cc1 : cap ≤ 9223372036854775807 := hcap2
        go_wp2_with fail
        refine P.out.mono ?_
        rintro r w5 ⟨v5, E5, rfl, hE5, hx5, hS5, m5⟩
        by_cases hl5 : stepE t j = []
        · rw [hl5] at hE5
          have hv5 : v5 = .nilIface := hE5.isNil.1 rfl
          subst hv5
          have Q := Lib.hid (And.intro hS5 (And.intro (HM.out.trans m5) (HEE.out.trans (err_ok (by omega) hl5))))
          clear hE5 hx5 hS5 m5 hl5
          go_wp2
          go_roundw
          case rel => exact ⟨j + 1, by omega, by go_num, Q.out.1, Q.out.2.1, Q.out.2.2⟩
          case measure => simp [intOf] <;> omega
        · have hbad : decL s = 30 :: stepE t j := by rw [E1.out, HEE.out, err_bad (by omega) hl5]
          have hr : decR s = Msg.zero := E2.out (by rw [hbad]; simp)
          have hv5 := hE5.iface
          have hv6 : v5 ≠ .nilIface := fun e => hl5 (hE5.isNil.2 e)
          have A5 := Lib.hid (AA.out.mod m5 X.out.2.2.2.2)
          have RA5 := Lib.hid (rat_calls w5 rb t _ hS5.r)
          have WR5 := Lib.hid (wrapE_calls w5 30 (stepA t (j + 1)) v5 (stepE t j) E5 (by omega) hE5)
          have M5 := Lib.hid (M4.out.fresh (HM.out.trans m5) (fun x hx => .inr (by simp at hx; omega)))
          have HX5 := Lib.hid hx5
          have HBAD := Lib.hid (And.intro hbad hr)
          have hz5 := m5.size
          generalize stepA t (j + 1) = a5 at RA5 WR5
          clear hE5 hx5 hS5 m5 hbad hr hl5
          rcases hv5 with rfl | ⟨T9, y9, rfl⟩
          · exact absurd rfl hv6
          clear hv6
          go_wp2_with fail
          refine RA5.out.mono ?_
          rintro r w6 ⟨rfl, rfl⟩
          go_wp2_with fail
          refine WR5.out.mono ?_
          rintro r w6 ⟨v6, rfl, hE6, m6⟩
          have A2 := A5.out.mod m6 (by simp)
          have r0 := A2.cell 0 (by omega)
          have r1 := A2.cell 1 (by omega)
          have r2 := A2.cell 2 (by omega)
          have r3 := A2.cell 3 (by omega)
          have r4 := A2.cell 4 (by omega)
          have r5 := A2.cell 5 (by omega)
          have r6 := A2.cell 6 (by omega)
          have r7 := A2.cell 7 (by omega)
          have g0 := A2.free 0
          have g1 := A2.free 1
          have g2 := A2.free 2
          have g3 := A2.free 3
          have g4 := A2.free 4
          have g5 := A2.free 5
          have g6 := A2.free 6
          have g7 := A2.free 7
          simp only [zeroF, if_true, if_false, Nat.reduceEqDiff] at r0 r1 r2 r3 r4 r5 r6 r7
          have F : Hid (∀ w7, Mod [w.heap.size] w6 w7 → DecPost w s (.returned (.tuple #[.agg zeroA, v6])) w7) := Lib.hid (fun w7 m7 => ⟨v6, _, by rw [HBAD.out.2]; rfl, by
            rw [HBAD.out.1]
            exact hE6.mod m7 (fun x hx => by
              rcases List.mem_cons.1 hx with e | e
              · simp; omega
              · have := HX5.out x e
                simp; omega), (M5.out.trans m6).fresh m7 (fun x hx => .inr (by simp at hx; omega))⟩)
          clear hE6 m6 A2
          go_wp2
          (try simp only [Exit.inBlock, Exit.then])
          refine bodyPost_ret (v := .tuple #[.agg #[.int .i64 0, .int .i64 0, .int .i64 0, .int .i64 0, .int .i64 0, .int .i64 0, .int .i64 0, .string ⟨#[]⟩], v6]) ?_ rfl ?_
          · rw [results_cell_tmp rfl]
            go_simp
          · refine F.out _ ?_
            repeat (first | (with_reducible exact Mod.refl _ _) | (with_reducible refine Mod.setCell ?_ (.inl (by simp)) _))
      by_cases h9 : j = 8
      · have D7 := Lib.hid h9
        clear h9
        have fc : wr.cell? ⟨g, j, none⟩ = some (.func (.func 86) #[.pointer (some ⟨rb, 0, none⟩)] #[]) := by
          have := ST.out.fn.cell j (by omega)
          rw [this]
          unfold stepV
          rw [if_neg h7, if_neg h8, if_pos D7.out]
        have P := Lib.hid (st_8' D7.out HS.out (by omega))
        have cc1 : cap ≤ 9223372036854775807 := hcap2
        go_wp2_with fail
        refine P.out.mono ?_
        rintro r w5 ⟨v5, E5, rfl, hE5, hx5, hS5, m5⟩
        by_cases hl5 : stepE t j = []
        · rw [hl5] at hE5
          have hv5 : v5 = .nilIface := hE5.isNil.1 rfl
          subst hv5
          have Q := Lib.hid (And.intro hS5 (And.intro (HM.out.trans m5) (HEE.out.trans (err_ok (by omega) hl5))))
          clear hE5 hx5 hS5 m5 hl5
          go_wp2
          go_roundw
          case rel => exact ⟨j + 1, by omega, by go_num, Q.out.1, Q.out.2.1, Q.out.2.2⟩
          case measure => simp [intOf] <;> omega
        · have hbad : decL s = 30 :: stepE t j := by rw [E1.out, HEE.out, err_bad (by omega) hl5]
          have hr : decR s = Msg.zero := E2.out (by rw [hbad]; simp)
          have hv5 := hE5.iface
          have hv6 : v5 ≠ .nilIface := fun e => hl5 (hE5.isNil.2 e)
          have A5 := Lib.hid (AA.out.mod m5 X.out.2.2.2.2)
          have RA5 := Lib.hid (rat_calls w5 rb t _ hS5.r)
          have WR5 := Lib.hid (wrapE_calls w5 30 (stepA t (j + 1)) v5 (stepE t j) E5 (by omega) hE5)
          have M5 := Lib.hid (M4.out.fresh (HM.out.trans m5) (fun x hx => .inr (by simp at hx; omega)))
          have HX5 := Lib.hid hx5
          have HBAD := Lib.hid (And.intro hbad hr)
          have hz5 := m5.size
          generalize stepA t (j + 1) = a5 at RA5 WR5
          clear hE5 hx5 hS5 m5 hbad hr hl5
          rcases hv5 with rfl | ⟨T9, y9, rfl⟩
          · exact absurd rfl hv6
          clear hv6
          go_wp2_with fail
          refine RA5.out.mono ?_
          rintro r w6 ⟨rfl, rfl⟩
          go_wp2_with fail
          refine WR5.out.mono ?_
          rintro r w6 ⟨v6, rfl, hE6, m6⟩
          have A2 := A5.out.mod m6 (by simp)
          have r0 := A2.cell 0 (by omega)
          have r1 := A2.cell 1 (by omega)
          have r2 := A2.cell 2 (by omega)
          have r3 := A2.cell 3 (by omega)
          have r4 := A2.cell 4 (by omega)
          have r5 := A2.cell 5 (by omega)
          have r6 := A2.cell 6 (by omega)
          have r7 := A2.cell 7 (by omega)
          have g0 := A2.free 0
          have g1 := A2.free 1
          have g2 := A2.free 2
          have g3 := A2.free 3
          have g4 := A2.free 4
          have g5 := A2.free 5
          have g6 := A2.free 6
          have g7 := A2.free 7
          simp only [zeroF, if_true, if_false, Nat.reduceEqDiff] at r0 r1 r2 r3 r4 r5 r6 r7
          have F : Hid (∀ w7, Mod [w.heap.size] w6 w7 → DecPost w s (.returned (.tuple #[.agg zeroA, v6])) w7) := Lib.hid (fun w7 m7 => ⟨v6, _, by rw [HBAD.out.2]; rfl, by
            rw [HBAD.out.1]
            exact hE6.mod m7 (fun x hx => by
              rcases List.mem_cons.1 hx with e | e
              · simp; omega
              · have := HX5.out x e
                simp; omega), (M5.out.trans m6).fresh m7 (fun x hx => .inr (by simp at hx; omega))⟩)
          clear hE6 m6 A2
          go_wp2
          (try simp only [Exit.inBlock, Exit.then])
          refine bodyPost_ret (v := .tuple #[.agg #[.int .i64 0, .int .i64 0, .int .i64 0, .int .i64 0, .int .i64 0, .int .i64 0, .int .i64 0, .string ⟨#[]⟩], v6]) ?_ rfl ?_
          · rw [results_cell_tmp rfl]
            go_simp
          · refine F.out _ ?_
            repeat (first | (with_reducible exact Mod.refl _ _) | (with_reducible refine Mod.setCell ?_ (.inl (by simp)) _))
      · have D7 : Hid (j = 9) := Lib.hid (by omega)
        have fc : wr.cell? ⟨g, j, none⟩ = some (.func (.func 87) #[] #[.pointer (some ⟨mbox, 0, none⟩)]) := by
          have := ST.out.fn.cell j (by omega)
          rw [this]
          unfold stepV
          rw [if_neg h7, if_neg h8, if_neg h9]
        have P := Lib.hid (st_9' D7.out HS.out ST.out.mx)
        have cc1 : cap ≤ 9223372036854775807 := hcap2
        go_wp2_with fail
        refine P.out.mono ?_
        rintro r w5 ⟨v5, E5, rfl, hE5, hx5, hS5, m5⟩
        by_cases hl5 : stepE t j = []
        · rw [hl5] at hE5
          have hv5 : v5 = .nilIface := hE5.isNil.1 rfl
          subst hv5
          have Q := Lib.hid (And.intro hS5 (And.intro (HM.out.trans m5) (HEE.out.trans (err_ok (by omega) hl5))))
          clear hE5 hx5 hS5 m5 hl5
          go_wp2
          go_roundw
          case rel => exact ⟨j + 1, by omega, by go_num, Q.out.1, Q.out.2.1, Q.out.2.2⟩
          case measure => simp [intOf] <;> omega
        · have hbad : decL s = 30 :: stepE t j := by rw [E1.out, HEE.out, err_bad (by omega) hl5]
          have hr : decR s = Msg.zero := E2.out (by rw [hbad]; simp)
          have hv5 := hE5.iface
          have hv6 : v5 ≠ .nilIface := fun e => hl5 (hE5.isNil.2 e)
          have A5 := Lib.hid (AA.out.mod m5 X.out.2.2.2.2)
          have RA5 := Lib.hid (rat_calls w5 rb t _ hS5.r)
          have WR5 := Lib.hid (wrapE_calls w5 30 (stepA t (j + 1)) v5 (stepE t j) E5 (by omega) hE5)
          have M5 := Lib.hid (M4.out.fresh (HM.out.trans m5) (fun x hx => .inr (by simp at hx; omega)))
          have HX5 := Lib.hid hx5
          have HBAD := Lib.hid (And.intro hbad hr)
          have hz5 := m5.size
          generalize stepA t (j + 1) = a5 at RA5 WR5
          clear hE5 hx5 hS5 m5 hbad hr hl5
          rcases hv5 with rfl | ⟨T9, y9, rfl⟩
          · exact absurd rfl hv6
          clear hv6
          go_wp2_with fail
          refine RA5.out.mono ?_
          rintro r w6 ⟨rfl, rfl⟩
          go_wp2_with fail
          refine WR5.out.mono ?_
          rintro r w6 ⟨v6, rfl, hE6, m6⟩
          have A2 := A5.out.mod m6 (by simp)
          have r0 := A2.cell 0 (by omega)
          have r1 := A2.cell 1 (by omega)
          have r2 := A2.cell 2 (by omega)
          have r3 := A2.cell 3 (by omega)
          have r4 := A2.cell 4 (by omega)
          have r5 := A2.cell 5 (by omega)
          have r6 := A2.cell 6 (by omega)
          have r7 := A2.cell 7 (by omega)
          have g0 := A2.free 0
          have g1 := A2.free 1
          have g2 := A2.free 2
          have g3 := A2.free 3
          have g4 := A2.free 4
          have g5 := A2.free 5
          have g6 := A2.free 6
          have g7 := A2.free 7
          simp only [zeroF, if_true, if_false, Nat.reduceEqDiff] at r0 r1 r2 r3 r4 r5 r6 r7
          have F : Hid (∀ w7, Mod [w.heap.size] w6 w7 → DecPost w s (.returned (.tuple #[.agg zeroA, v6])) w7) := Lib.hid (fun w7 m7 => ⟨v6, _, by rw [HBAD.out.2]; rfl, by
            rw [HBAD.out.1]
            exact hE6.mod m7 (fun x hx => by
              rcases List.mem_cons.1 hx with e | e
              · simp; omega
              · have := HX5.out x e
                simp; omega), (M5.out.trans m6).fresh m7 (fun x hx => .inr (by simp at hx; omega))⟩)
          clear hE6 m6 A2
          go_wp2
          (try simp only [Exit.inBlock, Exit.then])
          refine bodyPost_ret (v := .tuple #[.agg #[.int .i64 0, .int .i64 0, .int .i64 0, .int .i64 0, .int .i64 0, .int .i64 0, .int .i64 0, .string ⟨#[]⟩], v6]) ?_ rfl ?_
          · rw [results_cell_tmp rfl]
            go_simp
          · refine F.out _ ?_
            repeat (first | (with_reducible exact Mod.refl _ _) | (with_reducible refine Mod.setCell ?_ (.inl (by simp)) _))
end Go.Proofs.YtphcoenooinmfaaDoor
