/- Package wire's last steps of reading, and Decode: what they come to. Premises: the listed variables are as laid. -/
import Derived.Test.YtphcoenooinmfaaDoorWire3
namespace Go.Proofs.YtphcoenooinmfaaDoor
open Go.RowKit
set_option linter.unusedVariables false
set_option linter.unusedSimpArgs false
attribute [local go_sem ↓] Go.wp_at_zero Go.wp_at_succ

set_option maxRecDepth 100000 in
set_option maxHeartbeats 2000000 in
theorem step2_calls (w : World) (rbox mbox rb mb : Nat) (t : ByteArray) (a : Nat) (f : Nat → Value) (hS : DecSt w rb mb t a f) (hT : ErrT w) (hrx : Arr w rbox 125 1 (fun _ => .pointer (some ⟨rb, 0, none⟩))) (hmx : Arr w mbox 101 1 (fun _ => .pointer (some ⟨mb, 0, none⟩))) (ha : a ≤ t.size) (hs : t.size ≤ 1000000) (h1 : rbox ∉ [rb, mb]) (h2 : mbox ∉ [rb, mb]) :
    Calls Tryd.prog 84 #[.pointer (some ⟨rbox, 0, none⟩), .pointer (some ⟨mbox, 0, none⟩)] w (StepPost w rb mb t (rtL t a) (rtA t a) (setF f 7 (.string (rtS t a)))) := by
  have q0 : w.drew.cell? ⟨mbox, 0, none⟩ = some (.pointer (some ⟨mb, 0, none⟩)) := hmx.cell 0 (by omega)
  have q2 : w.drew.cell? ⟨rbox, 0, none⟩ = some (.pointer (some ⟨rb, 0, none⟩)) := hrx.cell 0 (by omega)
  have P := Lib.hid (rtext_calls w.drew rb t a (hS.r.mod0 ((Mod.refl _ _).drew)) (hT.mod ((Mod.refl [] _).drew) (by simp)) ha hs)
  have KS := Lib.hid (show ∀ w', Mod [rb, mb] w.drew w' → w'.cell? ⟨mbox, 0, none⟩ = some (.pointer (some ⟨mb, 0, none⟩)) ∧ w'.cell? ⟨rbox, 0, none⟩ = some (.pointer (some ⟨rb, 0, none⟩)) from fun w' m => ⟨m.cell' q0 h2, m.cell' q2 h1⟩)
  have HS := Lib.hid hS
  generalize rtS t a = x at *
  have hrl : rb < w.heap.size := Arr.lt hS.r
  have hml := hS.m.lt
  clear hS hrx hmx hT
  unfold RdPost at P
  go_enter Tryd.func84, Tryd.ntmps84
  go_wp2_with fail
  go_region_held3 (fun w' => w'.cell? ⟨mbox, 0, none⟩ = some (.pointer (some ⟨mb, 0, none⟩)) ∧ w'.cell? ⟨rbox, 0, none⟩ = some (.pointer (some ⟨rb, 0, none⟩)))
    ((refine KS.out _ ?_; with_reducible first
      | exact Mod.refl _ _
      | exact M5.out
      | exact M6.out _))
    (first
      | (go_at_call 85; (with_reducible refine P.out.mono ?_); rintro r w5 ⟨v5, E5, rfl, hE5, hx5, hR5, m5⟩; have M5 := Lib.hid (m5.mono (T := [rb, mb]) (by simp)); have M6 := Lib.hid (fun u => M5.out.setCell (p := ⟨mb, 7, none⟩) (.inl (by simp)) u); have Q5 := Lib.hid (And.intro hE5 (And.intro hx5 hR5)); have A5 := ((HS.out.m.mod ((Mod.refl [] w).drew) (by simp)).mod m5 (by simp; exact fun e => HS.out.ne e.symm)); have a5 := A5.cell 7 (by omega); have b5 := A5.free 7; have H5 := Lib.hid A5; clear hE5 hx5 hR5 m5 A5))
  have F : Hid (StepPost w rb mb t (rtL t a) (rtA t a) (setF f 7 (.string x)) (.returned v5) (w5.setCell ⟨mb, 7, none⟩ (.string x))) := Lib.hid (by
    have ms : Mod [mb] w5 (w5.setCell ⟨mb, 7, none⟩ (.string x)) := (Mod.refl _ _).setCell (.inl (by simp)) _
    exact ⟨v5, E5, rfl, Q5.out.1.mod ms (fun y hy => by have := Q5.out.2.1 y hy; simp at this; simp; omega), fun y hy => Q5.out.2.1 y hy, ⟨Q5.out.2.2.mod ms (by simp; exact HS.out.ne), (H5.out.set 7 _).congr fun i hi => by simp [setF], HS.out.ne⟩, (Mod.refl [rb, mb] w).drew.trans (M6.out _)⟩)
  go_wp2
  go_ret
  exact F.out
def chkL (m : Msg) : List Int := if m.chk = 0 then [] else [m.chk]
set_option maxRecDepth 100000 in
set_option maxHeartbeats 2000000 in
theorem step3_calls (w : World) (mbox rb mb : Nat) (t : ByteArray) (a : Nat) (x : Nat → Int) (d : ByteArray) (hS : DecSt w rb mb t a (Msg.cellF ⟨x, d⟩)) (hmx : Arr w mbox 101 1 (fun _ => .pointer (some ⟨mb, 0, none⟩))) :
    Calls Tryd.prog 87 #[.pointer (some ⟨mbox, 0, none⟩)] w (StepPost w rb mb t (chkL ⟨x, d⟩) a (Msg.cellF ⟨x, d⟩)) := by
  have q := hmx.cell 0 (by omega)
  have c0 : w.cell? ⟨mb, 0, none⟩ = some (.int .i64 (x 0)) := hS.m.cell 0 (by omega)
  have c1 : w.cell? ⟨mb, 1, none⟩ = some (.int .i64 (x 1)) := hS.m.cell 1 (by omega)
  have c2 : w.cell? ⟨mb, 2, none⟩ = some (.int .i64 (x 2)) := hS.m.cell 2 (by omega)
  have c3 : w.cell? ⟨mb, 3, none⟩ = some (.int .i64 (x 3)) := hS.m.cell 3 (by omega)
  have c4 : w.cell? ⟨mb, 4, none⟩ = some (.int .i64 (x 4)) := hS.m.cell 4 (by omega)
  have c5 : w.cell? ⟨mb, 5, none⟩ = some (.int .i64 (x 5)) := hS.m.cell 5 (by omega)
  have c6 : w.cell? ⟨mb, 6, none⟩ = some (.int .i64 (x 6)) := hS.m.cell 6 (by omega)
  have c7 : w.cell? ⟨mb, 7, none⟩ = some (.string d) := hS.m.cell 7 (by omega)
  have CK : Hid (Calls Tryd.prog 33 #[.agg #[.int .i64 (x 0), .int .i64 (x 1), .int .i64 (x 2), .int .i64 (x 3), .int .i64 (x 4), .int .i64 (x 5), .int .i64 (x 6), .string d]] w fun e w' => e = .returned (.int .i64 (Msg.chk ⟨x, d⟩)) ∧ Mod [] w w') := Lib.hid (wcheck_calls w ⟨x, d⟩)
  have HS := Lib.hid hS
  obtain ⟨c, hc⟩ : ∃ c, c = Msg.chk ⟨x, d⟩ := ⟨_, rfl⟩
  have hl : chkL ⟨x, d⟩ = if c = 0 then [] else [c] := by unfold chkL; rw [hc]
  rw [hl]
  rw [← hc] at CK
  clear hS hmx hc hl
  by_cases h0 : c = 0
  · subst h0
    simp only [if_true]
    go_enter Tryd.func87, Tryd.ntmps87
    go_wp2_with fail
    refine CK.out.mono ?_
    rintro e w1 ⟨rfl, m1⟩
    have F : Hid (StepPost w rb mb t [] a (Msg.cellF ⟨x, d⟩) (.returned .nilIface) w1) := Lib.hid ⟨_, [], rfl, .nil, by simp, ⟨HS.out.r.mod0 m1, HS.out.m.mod m1 (by simp), HS.out.ne⟩, m1.nil⟩
    clear m1
    go_wp2
    go_ret
    exact F.out
  · have hc0 : (c != 0) = true := by simpa using h0
    rw [if_neg h0]
    clear h0
    go_enter Tryd.func87, Tryd.ntmps87
    go_wp2_with fail
    refine CK.out.mono ?_
    rintro e w1 ⟨rfl, m1⟩
    have F : Hid (StepPost w rb mb t [c] a (Msg.cellF ⟨x, d⟩) (.returned (.iface 22 (.int .i64 c))) w1) := Lib.hid ⟨_, [], rfl, .num, by simp, ⟨HS.out.r.mod0 m1, HS.out.m.mod m1 (by simp), HS.out.ne⟩, m1.nil⟩
    clear m1
    go_wp2
    go_ret
    exact F.out
/-- The message's cells while it is read: the first j are read. -/
def midF (t : ByteArray) (j : Nat) (i : Nat) : Value := if i = 7 then (if j ≤ 7 then .string ⟨#[]⟩ else .string (rtS t (decA t 7))) else if i < j then .int .i64 (decN t i) else .int .i64 0
theorem midF_succ (t : ByteArray) (j : Nat) (hj : j < 7) : ∀ i, i < 8 → setF (midF t j) j (.int .i64 (decN t j)) i = midF t (j + 1) i := by
  intro i hi
  unfold setF midF
  by_cases e : i = j
  · subst e
    rw [if_pos rfl, if_neg (by omega), if_pos (by omega)]
  · rw [if_neg e]
    by_cases h7 : i = 7
    · rw [if_pos h7, if_pos h7, if_pos (by omega), if_pos (by omega)]
    · rw [if_neg h7, if_neg h7]
      by_cases h : i < j
      · rw [if_pos h, if_pos (by omega)]
      · rw [if_neg h, if_neg (by omega)]
theorem midF_7 (t : ByteArray) : ∀ i, i < 8 → setF (midF t 7) 7 (.string (rtS t (decA t 7))) i = (decM t).cellF i := by
  intro i hi
  unfold setF midF Msg.cellF decM
  by_cases h7 : i = 7
  · rw [if_pos h7, if_pos h7]
  · rw [if_neg h7, if_neg h7, if_neg h7, if_pos (by omega)]
/-- The errors that are yet to be met ahead of step j. -/
def errFrom (t : ByteArray) (j : Nat) : List Int :=
  if j < 8 then decFrom t (7 - j) j else if j = 8 then (if endL t (rtA t (decA t 7)) ≠ [] then 30 :: endL t (rtA t (decA t 7)) else if (decM t).chk ≠ 0 then [30, (decM t).chk] else []) else if j = 9 then (if (decM t).chk ≠ 0 then [30, (decM t).chk] else []) else []
/-- The errors of step j itself. -/
def stepE (t : ByteArray) (j : Nat) : List Int := if j < 7 then decE t j else if j = 7 then rtL t (decA t 7) else if j = 8 then endL t (rtA t (decA t 7)) else chkL (decM t)
def stepA (t : ByteArray) (j : Nat) : Nat := if j ≤ 7 then decA t j else rtA t (decA t 7)
def stepF (t : ByteArray) (j : Nat) : Nat → Value := if j ≤ 7 then midF t j else (decM t).cellF
theorem err_bad {t : ByteArray} {j : Nat} (hj : j < 10) (h : stepE t j ≠ []) : errFrom t j = 30 :: stepE t j := by
  unfold stepE at h ⊢
  unfold errFrom
  by_cases h7 : j < 7
  · rw [if_pos h7] at h ⊢
    rw [if_pos (by omega)]
    obtain ⟨n, hn⟩ : ∃ n, 7 - j = n + 1 := ⟨6 - j, by omega⟩
    rw [hn, decFrom_bad h]
  · rw [if_neg h7] at h ⊢
    by_cases h8 : j = 7
    · subst h8
      rw [if_pos rfl] at h ⊢
      rw [if_pos (by omega)]
      simp only [Nat.sub_self, decFrom]
      unfold decTail
      rw [if_pos h]
    · rw [if_neg h8] at h ⊢
      rw [if_neg (by omega)]
      by_cases h9 : j = 8
      · rw [if_pos h9] at h ⊢
        rw [if_pos h9, if_pos h]
      · rw [if_neg h9] at h ⊢
        rw [if_neg h9, if_pos (by omega)]
        unfold chkL at h ⊢
        by_cases hc : (decM t).chk = 0
        · rw [if_pos hc] at h; exact absurd rfl h
        · rw [if_neg hc, if_pos hc]
theorem err_8 (t : ByteArray) : errFrom t 8 = (if endL t (rtA t (decA t 7)) ≠ [] then 30 :: endL t (rtA t (decA t 7)) else if (decM t).chk ≠ 0 then [30, (decM t).chk] else []) := by
  unfold errFrom
  rw [if_neg (by omega), if_pos rfl]
theorem err_9 (t : ByteArray) : errFrom t 9 = (if (decM t).chk ≠ 0 then [30, (decM t).chk] else []) := by
  unfold errFrom
  rw [if_neg (by omega), if_neg (by omega), if_pos rfl]
theorem err_10 (t : ByteArray) : errFrom t 10 = [] := by
  unfold errFrom
  rw [if_neg (by omega), if_neg (by omega), if_neg (by omega)]
theorem err_7 (t : ByteArray) : errFrom t 7 = decTail t := by
  unfold errFrom
  rw [if_pos (by omega)]
  simp only [Nat.sub_self, decFrom]
theorem err_lt {t : ByteArray} {j : Nat} (h : j < 8) : errFrom t j = decFrom t (7 - j) j := by unfold errFrom; rw [if_pos h]
theorem err_ok {t : ByteArray} {j : Nat} (hj : j < 10) (h : stepE t j = []) : errFrom t j = errFrom t (j + 1) := by
  by_cases h7 : j < 7
  · unfold stepE at h
    rw [if_pos h7] at h
    rw [err_lt (by omega), err_lt (by omega)]
    obtain ⟨n, hn⟩ : ∃ n, 7 - j = n + 1 := ⟨6 - j, by omega⟩
    rw [hn, decFrom_ok h, show 7 - (j + 1) = n by omega]
  · have h3 : j = 7 ∨ j = 8 ∨ j = 9 := by omega
    rcases h3 with rfl | rfl | rfl
    · have h' : rtL t (decA t 7) = [] := by unfold stepE at h; rw [if_neg (by omega), if_pos rfl] at h; exact h
      rw [err_7, err_8]
      unfold decTail
      rw [if_neg (by rw [h']; simp)]
    · have h' : endL t (rtA t (decA t 7)) = [] := by unfold stepE at h; rw [if_neg (by omega), if_neg (by omega), if_pos rfl] at h; exact h
      rw [err_8, err_9, if_neg (by rw [h']; simp)]
    · have h' : chkL (decM t) = [] := by unfold stepE at h; rw [if_neg (by omega), if_neg (by omega), if_neg (by omega)] at h; exact h
      rw [err_9, err_10]
      unfold chkL at h'
      by_cases hc : (decM t).chk = 0
      · rw [if_neg (by simp [hc])]
      · rw [if_neg hc] at h'; cases h'
theorem results_cell_tmp {fn : Func} {t p : Tmp} {ty : TypeId} (h : fn.results = #[.cell p ty, .tmp t]) (tmps : Array Value) (P : Program) (w : World) :
    (results fn tmps).run P w = ((asAddr (tmps.getD p undef)).run P w).andThen fun a w₁ => ((loadVar ty a).run P w₁).andThen fun v w₂ => .ok (.tuple #[v, tmps.getD t undef]) w₂ := by
  simp only [results, h]
  simp [Sem.run_bind, Result.andThen]
end Go.Proofs.YtphcoenooinmfaaDoor
