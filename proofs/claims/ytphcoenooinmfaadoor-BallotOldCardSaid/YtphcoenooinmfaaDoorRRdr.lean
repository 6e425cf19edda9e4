/- The document's reader (weirkeepref01): what its calls come to. No condition but that the reader lies in memory. -/
import Derived.Test.YtphcoenooinmfaaDoorRdr2
import Derived.Test.YtphcoenooinmfaaDoorRWtr2
namespace Go.Proofs.YtphcoenooinmfaaDoor
open Go.RowKit
set_option linter.unusedVariables false
set_option linter.unusedSimpArgs false
attribute [local go_sem ↓] Go.wp_at_zero Go.wp_at_succ

theorem results_tmp_cell {fn : Func} {t p : Tmp} {ty : TypeId} (h : fn.results = #[.tmp t, .cell p ty]) (tmps : Array Value) (P : Program) (w : World) :
    (results fn tmps).run P w = ((asAddr (tmps.getD p undef)).run P w).andThen fun a w₁ => ((loadVar ty a).run P w₁).andThen fun v w₂ => .ok (.tuple #[tmps.getD t undef, v]) w₂ := by
  simp only [results, h]
  simp [Sem.run_bind, Result.andThen]
/-- A block of two numbers, as a row. -/
theorem own_two (w : World) (e f : Int) : (w.alloc (.cells #[.int .i64 e, .int .i64 f] 22)).ownsRow 0 22 1 (.slice (some ⟨w.heap.size, 0, none⟩) 2 2) 2 (ints [e, f]) :=
  ⟨rfl, .inr ⟨w.heap.size, 2, #[.int .i64 e, .int .i64 f], rfl, Nat.zero_le _, heap_alloc_new w _, Nat.le_refl _, by decide, rfl, rfl⟩⟩
theorem top8 (f : Nat → Nat) (a : Nat) (hf : ∀ i, f i < 256) : 2 ^ 63 ≤ leN f a 8 ↔ 127 < f (a + 7) := by
  have h := leN_lt f a 7 hf
  have e : leN f a 8 = leN f a 7 + f (a + 7) * 256 ^ 7 := rfl
  have := hf (a + 7)
  rw [e]
  generalize leN f a 7 = x at *
  generalize f (a + 7) = y at *
  simp only [Nat.reducePow] at *
  omega
theorem leN_suffix (f : Nat → Nat) (m : Nat) : ∀ (a j : Nat), leN f (a + m) j ≤ leN f a (m + j) := by
  induction m with
  | zero => intro a j; simp
  | succ m ih =>
    intro a j
    have h1 := ih (a + 1) j
    have h2 := leN_head f a (m + j)
    rw [show a + (m + 1) = a + 1 + m by omega, show m + 1 + j = m + j + 1 by omega, h2]
    omega
/-- What a reading call of the document's leaves. -/
def RRdPost (w : World) (T b : Nat) (s : ByteArray) (x : Value) (l : List Int) (a' : Nat) (r : Ending) (w' : World) : Prop :=
  ∃ v E, r = .returned (.tuple #[x, v]) ∧ RF w' v l E ∧ (∀ x, x ∈ E → w.heap.size ≤ x) ∧ Rdr w' T b s a' ∧ Mod [b] w w'
theorem RRdPost.badS {w w1 : World} {T b : Nat} {s : ByteArray} {x : Value} {a : Nat} {l : List Int} {v : Value} {E : List Nat} (hR : Rdr w T b s a) (hE : RF w1 v l E) (hx : ∀ x, x ∈ E → w.heap.size < x) (m : Mod [] w w1) (u0 u1 : Value) :
    RRdPost w T b s x l a (.returned (.tuple #[x, v])) ((w1.setCell ⟨w.heap.size, 0, none⟩ u0).setCell ⟨w.heap.size, 1, none⟩ u1) := by
  have hb : b < w.heap.size := Arr.lt hR
  have ms : Mod [w.heap.size] w1 ((w1.setCell ⟨w.heap.size, 0, none⟩ u0).setCell ⟨w.heap.size, 1, none⟩ u1) := ((Mod.refl _ _).setCell (.inl (by simp)) _).setCell (.inl (by simp)) _
  exact ⟨v, E, rfl, hE.mod ms (fun x h => by have := hx x h; simp; omega), fun x h => by have := hx x h; omega, (hR.mod0 m).mod ms (by simp; omega), (m.fresh ms (fun x hx => .inr (by simp at hx; omega))).nil⟩
theorem RRdPost.goodS {w w1 : World} {T b : Nat} {s : ByteArray} {x : Value} {a c : Nat} {z : Int} (hR : Rdr w T b s a) (m : Mod [] w w1) (hz : z = (c : Int)) (u0 u1 : Value) :
    RRdPost w T b s x [] c (.returned (.tuple #[x, .agg #[.slice none 0 0, .int .i64 0]])) (((w1.setCell ⟨b, 1, none⟩ (.int .i64 z)).setCell ⟨w.heap.size, 0, none⟩ u0).setCell ⟨w.heap.size, 1, none⟩ u1) := by
  have hb : b < w.heap.size := Arr.lt hR
  have ms : Mod [w.heap.size] (w1.setCell ⟨b, 1, none⟩ (.int .i64 z)) (((w1.setCell ⟨b, 1, none⟩ (.int .i64 z)).setCell ⟨w.heap.size, 0, none⟩ u0).setCell ⟨w.heap.size, 1, none⟩ u1) := ((Mod.refl _ _).setCell (.inl (by simp)) _).setCell (.inl (by simp)) _
  exact ⟨_, [], rfl, RF.none _, by simp, ((hR.mod0 m).toI hz).mod ms (by simp; omega), ((m.nil (S := [b])).setCell (p := ⟨b, 1, none⟩) (.inl (by simp)) _).fresh ms (fun x hx => .inr (by simp at hx; omega))⟩
set_option maxRecDepth 100000 in
set_option maxHeartbeats 4000000 in
theorem rrnum_calls (w : World) (b : Nat) (s : ByteArray) (a : Nat) (k : Int) (hR : Rdr w 132 b s a) (ha : a ≤ s.size) (hs : s.size ≤ 1000000) (k0 : -9223372036854775808 ≤ k) (k1 : k ≤ 9223372036854775807) :
    Calls Tryd.prog 66 #[.pointer (some ⟨b, 0, none⟩), .int .i64 k] w (RRdPost w 132 b s (.int .i64 (rdN s a k)) (rdL s a k) (rdA s a k)) := by
  obtain ⟨w0, hw0⟩ : ∃ w0, w0 = w.alloc (.cells #[.slice none 0 0, .int .i64 0] 112) := ⟨_, rfl⟩
  have m0 : Mod [] w w0 := by rw [hw0]; exact (Mod.refl _ _).alloc _
  have hsz : w0.heap.size = w.heap.size + 1 := by rw [hw0]; simp
  have RA : Hid (Arr w0 w.heap.size 112 2 (fun i => if i = 0 then .slice none 0 0 else .int .i64 0)) := Lib.hid (by rw [hw0]; exact res_arr w)
  have HR := Lib.hid hR
  have M0 := Lib.hid m0
  have HSZ := Lib.hid hsz
  have HZ := Lib.hid hw0
  have h0 := hR.mod0 m0
  have c0 := h0.c0
  have c1 := h0.c1
  have H0 := Lib.hid h0
  have WI := Lib.hid (rwide_calls w0 k _ rfl)
  have ONE := Lib.hid (fun w1 e => oneRF_calls w1 e a)
  clear hR m0 hsz hw0 h0
  by_cases hw : wideB k = true
  rotate_left
  · have hw' : wideB k = false := by simpa using hw
    have e1 : rdL s a k = [1] := by simp [rdL, hw']
    have e2 : rdN s a k = 0 := by simp [rdN, hw']
    have e3 : rdA s a k = a := by unfold rdA; rw [if_neg (by rw [e1]; simp)]
    rw [e1, e2, e3]
    rw [hw'] at WI
    clear e1 e2 e3 hw hw'
    go_enter Tryd.func66, Tryd.ntmps66
    go_wp2_with fail
    rw [← HZ.out]
    refine WI.out.mono ?_
    rintro r w1 ⟨rfl, rfl⟩
    go_wp2_with fail
    refine (ONE.out w0 1).mono ?_
    rintro r w1 ⟨sv, rfl, hRF, ⟨A, c, rfl⟩, m1⟩
    have hAR := RA.out.mod m1 (by simp)
    have r0 := hAR.cell 0 (by omega)
    have r1 := hAR.cell 1 (by omega)
    have g0 := hAR.free 0
    have g1 := hAR.free 1
    simp only [if_true, if_false, Nat.reduceEqDiff] at r0 r1
    have FIN := Lib.hid (And.intro hRF m1)
    clear hRF m1 hAR c0 c1
    go_wp2
    (try simp only [Exit.inBlock, Exit.then])
    refine bodyPost_ret (v := .tuple #[.int .i64 0, .agg #[.slice A 1 c, .int .i64 a]]) ?_ rfl ?_
    · rw [results_tmp_cell rfl]
      go_simp
    · exact RRdPost.badS HR.out FIN.out.1 (fun x hx => by have := HSZ.out; simp at hx; omega) (M0.out.trans FIN.out.2) _ _
  have hk4 := wide_cases hw
  obtain ⟨kn, rfl⟩ : ∃ kn : Nat, k = (kn : Int) := ⟨k.toNat, by omega⟩
  have hpow := pow_cases kn hk4
  have hk8 : kn ≤ 8 := by omega
  have hk0 : 0 < kn := by omega
  have eN : rdN s a kn = if (s.size : Int) - a < kn then 0 else if 2 ^ 63 ≤ leN (byS s) a kn then 0 else ((leN (byS s) a kn : Nat) : Int) := by simp [rdN, hw]
  have eL : rdL s a kn = if (s.size : Int) - a < kn then [10] else if 2 ^ 63 ≤ leN (byS s) a kn then [11] else [] := by simp [rdL, hw]
  have EN := Lib.hid eN
  have EL := Lib.hid eL
  rw [hw] at WI
  clear hw eN eL
  have ws : IntKind.i64.wrap ((s.size : Int) - (a : Int)) = (s.size : Int) - (a : Int) := IntWalk.i64_in _ (by omega)
  by_cases hsh : (s.size : Int) - a < kn
  · have t1 : decide ((s.size : Int) - (a : Int) < (kn : Int)) = true := by simpa using hsh
    have e1 := EN.out
    have e2 := EL.out
    rw [if_pos hsh] at e1 e2
    have e3 : rdA s a kn = a := by unfold rdA; rw [if_neg (by rw [e2]; simp)]
    rw [e1, e2, e3]
    clear e1 e2 e3 EN EL hsh hk4
    go_enter Tryd.func66, Tryd.ntmps66
    go_wp2_with fail
    rw [← HZ.out]
    refine WI.out.mono ?_
    rintro r w1 ⟨rfl, rfl⟩
    go_wp2
    go_quiet (fail)
    go_wp2_with fail
    refine (ONE.out _ 10).mono ?_
    rintro r w1 ⟨sv, rfl, hRF, ⟨A, c, rfl⟩, m1⟩
    have hAR := RA.out.mod (((Mod.refl [] w0).drewN _).trans m1) (by simp)
    have r0 := hAR.cell 0 (by omega)
    have r1 := hAR.cell 1 (by omega)
    have g0 := hAR.free 0
    have g1 := hAR.free 1
    simp only [if_true, if_false, Nat.reduceEqDiff] at r0 r1
    have FIN := Lib.hid (And.intro hRF (((Mod.refl [] w0).drewN _).trans m1))
    clear hRF m1 hAR c0 c1
    go_wp2
    (try simp only [Exit.inBlock, Exit.then])
    refine bodyPost_ret (v := .tuple #[.int .i64 0, .agg #[.slice A 1 c, .int .i64 a]]) ?_ rfl ?_
    · rw [results_tmp_cell rfl]
      go_simp
    · exact RRdPost.badS HR.out FIN.out.1 (fun x hx => by have := HSZ.out; simp at hx; omega) (M0.out.trans FIN.out.2) _ _
  have t1 : decide ((s.size : Int) - (a : Int) < (kn : Int)) = false := by simpa using hsh
  have hfit : a + kn ≤ s.size := by omega
  have e1 := EN.out
  have e2 := EL.out
  rw [if_neg hsh] at e1 e2
  clear EN EL hsh
  by_cases h63 : 2 ^ 63 ≤ leN (byS s) a kn
  · rw [if_pos h63] at e1 e2
    have hkn : kn = 8 := by
      rcases hk4 with h | h | h | h
      · obtain rfl : kn = 1 := by omega
        have := leN_lt (byS s) a 1 (byS_lt s); omega
      · obtain rfl : kn = 2 := by omega
        have := leN_lt (byS s) a 2 (byS_lt s); omega
      · obtain rfl : kn = 4 := by omega
        have := leN_lt (byS s) a 4 (byS_lt s); omega
      · omega
    subst hkn
    have hb7 := (top8 (byS s) a (byS_lt s)).1 h63
    have e3 : rdA s a ((8 : Nat) : Int) = a := by unfold rdA; rw [if_neg (by rw [e2]; simp)]
    rw [e1, e2, e3]
    have eb := byS_eq s (a + 7) (by omega)
    have q1 : IntKind.i64.wrap ((a : Int) + 7) = (a : Int) + 7 := IntWalk.i64_in _ (by omega)
    have n1 : ((a : Int) + 7).toNat = a + 7 := by omega
    have n2 : (0 : Int) ≤ (a : Int) + 7 := by omega
    have n3 : (a : Int) + 7 < (s.size : Int) := by omega
    have t1' : decide ((s.size : Int) - (a : Int) < 8) = false := by simp; omega
    clear t1
    have q2 : decide ((127 : Int) < ((byS s (a + 7) : Nat) : Int)) = true := by simp; omega
    clear e1 e2 e3 h63 hk4 hb7
    go_enter Tryd.func66, Tryd.ntmps66
    go_wp2_with fail
    rw [← HZ.out]
    refine WI.out.mono ?_
    rintro r w1 ⟨rfl, rfl⟩
    go_wp2
    go_quiet (fail)
    go_wp2
    go_quiet (fail)
    go_wp2_with fail
    refine (ONE.out _ 11).mono ?_
    rintro r w1 ⟨sv, rfl, hRF, ⟨A, c, rfl⟩, m1⟩
    have hAR := RA.out.mod (((Mod.refl [] w0).drewN _).trans m1) (by simp)
    have r0 := hAR.cell 0 (by omega)
    have r1 := hAR.cell 1 (by omega)
    have g0 := hAR.free 0
    have g1 := hAR.free 1
    simp only [if_true, if_false, Nat.reduceEqDiff] at r0 r1
    have FIN := Lib.hid (And.intro hRF (((Mod.refl [] w0).drewN _).trans m1))
    clear hRF m1 hAR c0 c1
    go_wp2
    (try simp only [Exit.inBlock, Exit.then])
    refine bodyPost_ret (v := .tuple #[.int .i64 0, .agg #[.slice A 1 c, .int .i64 a]]) ?_ rfl ?_
    · rw [results_tmp_cell rfl]
      go_simp
    · exact RRdPost.badS HR.out FIN.out.1 (fun x hx => by have := HSZ.out; simp at hx; omega) (M0.out.trans FIN.out.2) _ _
  · rw [if_neg h63] at e1 e2
    have e3 : rdA s a kn = a + kn := by unfold rdA; rw [if_pos e2]; simp
    rw [e1, e2, e3]
    have h63' : leN (byS s) a kn < 9223372036854775808 := by omega
    have HSUF := Lib.hid (fun j (hj : j ≤ kn) => leN_suffix (byS s) (kn - j) a j)
    have q8 : kn = 8 → ¬ 127 < byS s (a + 7) := fun e h => by
      subst e
      exact h63 ((top8 (byS s) a (byS_lt s)).2 h)
    have HQ8 := Lib.hid q8
    have HK4 := Lib.hid hk4
    clear e1 e2 e3 h63 hk4 q8
    go_enter Tryd.func66, Tryd.ntmps66
    go_wp2_with fail
    rw [← HZ.out]
    refine WI.out.mono ?_
    rintro r w1 ⟨rfl, rfl⟩
    go_wp2
    go_quiet (fail)
    go_wp2
    obtain ⟨wq, hwq⟩ : ∃ wq, wq = w0.drewN nq := ⟨_, rfl⟩
    have MQ : Mod [] w0 wq := by rw [hwq]; exact (Mod.refl _ _).drewN _
    rw [← hwq]
    have HMQ := Lib.hid MQ
    have d0 := MQ.cell' c0 (by simp)
    have d1 := MQ.cell' c1 (by simp)
    clear hwq MQ c0 c1 ws t1
    go_cut [47] (fun s47 wx => s47 = .bool false ∧ Mod [] w0 wx)
    case first =>
      by_cases h8 : kn = 8
      · subst h8
        have eb := byS_eq s (a + 7) (by omega)
        have q1 : IntKind.i64.wrap ((a : Int) + 7) = (a : Int) + 7 := IntWalk.i64_in _ (by omega)
        have n1 : ((a : Int) + 7).toNat = a + 7 := by omega
        have n2 : (0 : Int) ≤ (a : Int) + 7 := by omega
        have n3 : (a : Int) + 7 < (s.size : Int) := by omega
        have q2 : decide ((127 : Int) < ((byS s (a + 7) : Nat) : Int)) = false := by have := HQ8.out rfl; simp; omega
        go_quiet (fail)
        (try go_wp2)
        go_meet
        exact ⟨rfl, HMQ.out.drewN _⟩
      · have q1 : ((kn : Int) == 8) = false := by simp; omega
        go_quiet (fail)
        (try go_wp2)
        go_meet
        exact ⟨rfl, HMQ.out.drewN _⟩
    case rest =>
    obtain ⟨h47, hM⟩ := hcut
    subst h47
    have e0 := hM.cell' (H0.out.c0) (by simp)
    have e1 := hM.cell' (H0.out.c1) (by simp)
    have HM := Lib.hid hM
    clear hM d0 d1
    go_wp2
    go_loopw [6, 7] (fun x i wr => ∃ j : Nat, j ≤ kn ∧ i = .int .i64 ((kn : Int) - 1 - (j : Int)) ∧ x = .int .i64 ((leN (byS s) (a + (kn - j)) j : Nat) : Int) ∧ Mod [] w0 wr) (fun _ i _ => (intOf i + 1).toNat)
    case atStart => exact ⟨0, Nat.zero_le _, by simp, rfl, HM.out⟩
    case round =>
      obtain ⟨j, hj, rfl, rfl, hM⟩ := hrel
      clear HM
      have e0 := hM.cell' (H0.out.c0) (by simp)
      have e1 := hM.cell' (H0.out.c1) (by simp)
      have HM := Lib.hid hM
      clear hM
      by_cases hlt : j < kn
      · obtain ⟨i, hi⟩ : ∃ i : Nat, (i : Int) = (kn : Int) - 1 - (j : Int) := ⟨kn - 1 - j, by omega⟩
        have hlen : a + i < s.size := by omega
        have eb := byS_eq s (a + i) hlen
        have hsub : kn - j = i + 1 := by omega
        have hstep : leN (byS s) (a + i) (j + 1) = byS s (a + i) + 256 * leN (byS s) (a + (i + 1)) j := leN_head (byS s) (a + i) j
        have hbound : leN (byS s) (a + i) (j + 1) < 9223372036854775808 := by
          have h1 := HSUF.out (j + 1) (by omega)
          rw [show kn - (j + 1) = i by omega, show i + (j + 1) = kn by omega] at h1
          omega
        have hnext : kn - (j + 1) = i := by omega
        rw [← hi, hsub]
        have HI := Lib.hid hi
        have HSTEP := Lib.hid hstep
        have HNEXT := Lib.hid hnext
        have hby := byS_lt s (a + i)
        rw [hstep] at hbound
        obtain ⟨y, hy⟩ : ∃ y, y = leN (byS s) (a + (i + 1)) j := ⟨_, rfl⟩
        rw [← hy] at hbound ⊢
        have HY := Lib.hid hy
        clear hi hsub hstep hy hnext
        have i2 : (0 : Int) ≤ (i : Int) := by omega
        have q1 : IntKind.i64.wrap ((a : Int) + (i : Int)) = (a : Int) + (i : Int) := IntWalk.i64_in _ (by omega)
        have q2 : IntKind.i64.wrap ((y : Int) * 256) = (y : Int) * 256 := IntWalk.i64_in _ (by omega)
        have q4 : IntKind.i64.wrap ((byS s (a + i) : Nat) : Int) = ((byS s (a + i) : Nat) : Int) := IntWalk.i64_in _ (by omega)
        have q3 : IntKind.i64.wrap ((y : Int) * 256 + ((byS s (a + i) : Nat) : Int)) = (y : Int) * 256 + ((byS s (a + i) : Nat) : Int) := IntWalk.i64_in _ (by omega)
        have n1 : ((a : Int) + (i : Int)).toNat = a + i := by omega
        have n2 : (0 : Int) ≤ (a : Int) + (i : Int) := by omega
        have n3 : (a : Int) + (i : Int) < (s.size : Int) := by omega
        go_wp2
        go_quiet (fail)
        clear q1 q2 q3 q4 n1
        go_wp2
        go_roundw
        case rel => exact ⟨j + 1, by omega, by have := HI.out; congr 1 <;> omega, by rw [HNEXT.out, HSTEP.out, ← HY.out]; congr 1 <;> omega, HM.out.drewN _⟩
        case measure => have := HI.out; first | (simp [intOf]; done) | (simp [intOf]; omega)
      · obtain rfl : j = kn := by omega
        have i2 : ¬ (0 : Int) ≤ (j : Int) - 1 - (j : Int) := by omega
        have ei : (j : Int) - 1 - (j : Int) = -1 := by omega
        have eV : leN (byS s) (a + (j - j)) j = leN (byS s) a j := by rw [Nat.sub_self, Nat.add_zero]
        rw [ei, eV]
        have h1 := HR.out.mod0 (M0.out.trans HM.out)
        have f1 := Arr.free h1 1
        have hbl : b < w.heap.size := Arr.lt HR.out
        have hne : w.heap.size ≠ b := by omega
        have hAR := (RA.out.mod HM.out (by simp)).other (p := ⟨b, 1, none⟩) hne.symm (.int .i64 ((a : Int) + (j : Int)))
        have r0 := hAR.cell 0 (by omega)
        have r1 := hAR.cell 1 (by omega)
        have g0 := hAR.free 0
        have g1 := hAR.free 1
        simp only [if_true, if_false, Nat.reduceEqDiff] at r0 r1
        obtain ⟨y, hy⟩ : ∃ y, y = leN (byS s) a j := ⟨_, rfl⟩
        have HYY := Lib.hid hy
        rw [← hy] at h63' ⊢
        clear h1 hAR ei eV i2 hy hne
        go_wp2
        (try simp only [Exit.inBlock, Exit.then])
        refine bodyPost_ret (v := .tuple #[.int .i64 y, .agg #[.slice none 0 0, .int .i64 0]]) ?_ rfl ?_
        · rw [results_tmp_cell rfl]
          go_simp
        · rw [← HYY.out]
          exact RRdPost.goodS (c := a + j) (z := (a : Int) + (j : Int)) HR.out (M0.out.trans HM.out) (by omega) _ _
set_option maxRecDepth 100000 in
set_option maxHeartbeats 4000000 in
theorem rrtext_calls (w : World) (b : Nat) (s : ByteArray) (a : Nat) (hR : Rdr w 132 b s a) (ha : a ≤ s.size) (hs : s.size ≤ 1000000) :
    Calls Tryd.prog 68 #[.pointer (some ⟨b, 0, none⟩)] w (RRdPost w 132 b s (.string (rtS s a)) (rtL s a) (rtA s a)) := by
  obtain ⟨w0, hw0⟩ : ∃ w0, w0 = w.alloc (.cells #[.slice none 0 0, .int .i64 0] 112) := ⟨_, rfl⟩
  have m0 : Mod [] w w0 := by rw [hw0]; exact (Mod.refl _ _).alloc _
  have hsz : w0.heap.size = w.heap.size + 1 := by rw [hw0]; simp
  have RA : Hid (Arr w0 w.heap.size 112 2 (fun i => if i = 0 then .slice none 0 0 else .int .i64 0)) := Lib.hid (by rw [hw0]; exact res_arr w)
  have HR := Lib.hid hR
  have M0 := Lib.hid m0
  have HSZ := Lib.hid hsz
  have HZ := Lib.hid hw0
  have h0 := hR.mod0 m0
  have c1' := h0.c1
  rw [hw0] at c1'
  have P := Lib.hid (rrnum_calls w0 b s a 2 h0 ha hs (by omega) (by omega))
  have hbl : b < w.heap.size := Arr.lt hR
  have ONE := Lib.hid (fun w1 e => oneRF_calls w1 e a)
  clear hR m0 hsz hw0 h0
  unfold RRdPost at P
  rcases rd2 s a with ⟨hsh, e1, e2⟩ | ⟨hsh, e1, e2, hN⟩
  · have e3 : rtS s a = ⟨#[]⟩ := by unfold rtS; rw [if_neg (by rw [e2]; simp)]
    have e4 : rtA s a = a := by unfold rtA; rw [if_neg (by rw [e2]; simp)]
    have e5 : rdA s a 2 = a := by unfold rdA; rw [if_neg (by rw [e1]; simp)]
    rw [e2, e3, e4]
    rw [e1, e5] at P
    generalize rdN s a 2 = x at P
    clear e1 e2 e3 e4 e5
    go_enter Tryd.func68, Tryd.ntmps68
    go_wp2_with fail
    rw [← HZ.out]
    refine P.out.mono ?_
    rintro r w1 ⟨v, E, rfl, hRF, hx, hR1, m1⟩
    obtain ⟨sv, av, rfl, ho, hg⟩ := hRF
    obtain ⟨g, cap, rfl, _, hcap, hcm, hA⟩ := own_arr ho (by simp)
    have hcap' : cap ≤ 9223372036854775807 := by unfold maxLen at hcm; exact hcm
    have hRF : RF w1 (.agg #[.slice (some ⟨g, 0, none⟩) 1 cap, .int .i64 av]) [10] E := ⟨_, _, rfl, ho, hg⟩
    obtain ⟨w2, hw2⟩ : ∃ w2, w2 = w1.alloc (.cells #[.slice (some ⟨g, 0, none⟩) 1 cap, .int .i64 av] 112) := ⟨_, rfl⟩
    have m2 : Mod [] w1 w2 := by rw [hw2]; exact (Mod.refl _ _).alloc _
    have C := Lib.hid (rcode_calls w2 _ [10] E (hRF.mod0 m2) (by simp))
    have hA2 := hA.mod m2 (by simp)
    have HA2 := Lib.hid hA2
    have B2 : Arr w2 w1.heap.size 112 2 (fun i => if i = 0 then .slice (some ⟨g, 0, none⟩) 1 cap else .int .i64 av) := by
      rw [hw2]
      exact Arr.new' w1 _ _ 2 _ rfl (fun i hi => by
        match i, hi with
        | 0, _ => rfl
        | 1, _ => rfl)
    have HB2 := Lib.hid B2
    have HW2 := Lib.hid hw2
    have M2 := Lib.hid m2
    have M1 := Lib.hid m1
    have HR1 := Lib.hid hR1
    clear hRF ho hA m2 hA2 B2 hw2 m1 hR1 c1'
    go_wp2_with fail
    rw [← HW2.out]
    refine C.out.mono ?_
    rintro r w3 ⟨rfl, m3⟩
    simp only [List.headD_cons]
    have hA3 := HA2.out.mod m3 (by simp)
    have hB3 := HB2.out.mod m3 (by simp)
    have x0 := hB3.cell 0 (by omega)
    have y0 : w3.cell? ⟨g, 0, none⟩ = some (.int .i64 10) := hA3.cell 0 (by simp)
    simp only [if_true] at x0
    have hAR := ((RA.out.mod (M1.out) (by simp; omega)).mod M2.out (by simp)).mod m3 (by simp)
    have r0 := hAR.cell 0 (by omega)
    have r1 := hAR.cell 1 (by omega)
    have g0 := hAR.free 0
    have g1 := hAR.free 1
    simp only [if_true, if_false, Nat.reduceEqDiff] at r0 r1
    have M3 := Lib.hid m3
    have hlt3 := hAR.lt
    clear hA3 hB3 hAR m3
    go_wp2
    go_region
    have m03 : Mod [b] w w3 := (((M0.out.nil.trans M1.out).trans M2.out.nil).trans M3.out.nil)
    have R3 := (HR1.out.mod0 M2.out).mod0 M3.out
    have FIN : Hid (RRdPost w 132 b s (.string ⟨#[]⟩) [10, 10] a (.returned (.tuple #[.string ⟨#[]⟩, .agg #[.slice (some ⟨w3.heap.size, 0, none⟩) 2 2, .int .i64 a]]))
      (((w3.setCell ⟨w.heap.size, 0, none⟩ (.slice (some ⟨w3.heap.size, 0, none⟩) 2 2)).setCell ⟨w.heap.size, 1, none⟩ (.int .i64 a)).alloc (.cells #[.int .i64 10, .int .i64 10] 22)).drew) := Lib.hid (by
      have ms : Mod [w.heap.size] w3 ((w3.setCell ⟨w.heap.size, 0, none⟩ (.slice (some ⟨w3.heap.size, 0, none⟩) 2 2)).setCell ⟨w.heap.size, 1, none⟩ (.int .i64 a)) := ((Mod.refl _ _).setCell (.inl (by simp)) _).setCell (.inl (by simp)) _
      obtain ⟨wX, hX⟩ : ∃ wX, wX = ((w3.setCell ⟨w.heap.size, 0, none⟩ (.slice (some ⟨w3.heap.size, 0, none⟩) 2 2)).setCell ⟨w.heap.size, 1, none⟩ (.int .i64 a)) := ⟨_, rfl⟩
      have hXs : wX.heap.size = w3.heap.size := by rw [hX]; simp
      rw [← hX] at ms ⊢
      have hl3 : w.heap.size < w3.heap.size := hlt3
      exact ⟨_, [w3.heap.size], rfl, ⟨_, _, rfl, own_mod (hXs ▸ own_two wX 10 10) ((Mod.refl [] _).drew) (by simp), fun g hg => by simp [Value.ownBlock] at hg; simp [hg]⟩, fun x hx => by simp at hx; omega,
        (((R3.mod ms (by simp; omega)).mod0 ((Mod.refl [] _).alloc _)).mod0 ((Mod.refl [] _).drew)), ((m03.fresh ms (fun x hx => .inr (by simp at hx; omega))).alloc _).drew⟩)
    clear m03 R3
    go_wp2
    (try simp only [Exit.inBlock, Exit.then])
    refine bodyPost_ret (v := .tuple #[.string ⟨#[]⟩, .agg #[.slice (some ⟨w3.heap.size, 0, none⟩) 2 2, .int .i64 a]]) ?_ rfl ?_
    · rw [results_tmp_cell rfl]
      go_simp
    · exact FIN.out
  · obtain ⟨N, hN'⟩ : ∃ N, N = leN (byS s) a 2 := ⟨_, rfl⟩
    rw [← hN'] at e2 hN
    have e5 : rdA s a 2 = a + 2 := by unfold rdA; rw [if_pos e1]; rfl
    rw [e1, e2, e5] at P
    have a1 : rtL s a = if 1024 < N then [11] else if (s.size : Int) - a - 2 < N then [10] else [] := by
      unfold rtL
      rw [if_neg (by rw [e1]; simp), e2]
      by_cases h9 : 1024 < N
      · rw [if_pos h9, if_pos (by omega)]
      · rw [if_neg h9, if_neg (by omega)]
    have a2 : rtL s a = [] → rtA s a = a + 2 + N ∧ rtS s a = s.extract (a + 2) (a + 2 + N) := fun h => by
      unfold rtA rtS
      rw [if_pos h, if_pos h, e2]
      simp
    have a3 : rtL s a ≠ [] → rtA s a = a ∧ rtS s a = ⟨#[]⟩ := fun h => by
      unfold rtA rtS
      rw [if_neg h, if_neg h]
      simp
    have A1 := Lib.hid a1
    have A2 := Lib.hid a2
    have A3 := Lib.hid a3
    clear a1 a2 a3 e1 e2 e5 hN'
    by_cases hbig : 1024 < N
    · have t1 : decide ((1024 : Int) < (N : Int)) = true := by simp; omega
      have eL : rtL s a = [11] := by rw [A1.out, if_pos hbig]
      obtain ⟨eA, eS⟩ := A3.out (by rw [eL]; simp)
      rw [eL, eA, eS]
      clear eL eA eS A1 A2 A3
      go_enter Tryd.func68, Tryd.ntmps68
      go_wp2_with fail
      rw [← HZ.out]
      refine P.out.mono ?_
      rintro r w1 ⟨v, E, rfl, hRF, hx, hR1, m1⟩
      obtain ⟨sv, av, rfl, ho, hg⟩ := hRF
      obtain ⟨A, cap, rfl, _⟩ := (own_slA ho).ex
      have hRF : RF w1 (.agg #[.slice A 0 cap, .int .i64 av]) [] E := ⟨_, _, rfl, ho, hg⟩
      obtain ⟨w2, hw2⟩ : ∃ w2, w2 = w1.alloc (.cells #[.slice A 0 cap, .int .i64 av] 112) := ⟨_, rfl⟩
      have m2 : Mod [] w1 w2 := by rw [hw2]; exact (Mod.refl _ _).alloc _
      have C := Lib.hid (rcode_calls w2 _ [] E (hRF.mod0 m2) (by simp))
      have HW2 := Lib.hid hw2
      have M2 := Lib.hid m2
      have M1 := Lib.hid m1
      have HR1 := Lib.hid hR1
      clear hRF ho m2 hw2 m1 hR1 c1'
      simp only [List.length_nil]
      go_wp2_with fail
      rw [← HW2.out]
      refine C.out.mono ?_
      rintro r w3 ⟨rfl, m3⟩
      simp only [List.headD_nil]
      have R3 := (HR1.out.mod0 M2.out).mod0 m3
      have f3 := Arr.free R3 1
      have q1 := R3.c1
      have R4 := R3.toI (c := a) (z := (a : Int)) rfl
      have hAR := ((RA.out.mod (M1.out) (by simp; omega)).mod M2.out (by simp)).mod m3 (by simp)
      have M4 := Lib.hid ((((M0.out.nil.trans M1.out).trans M2.out.nil).trans m3.nil).setCell (p := ⟨b, 1, none⟩) (.inl (by simp)) (.int .i64 a))
      have hAR4 := hAR.other (p := ⟨b, 1, none⟩) (by simp; omega) (.int .i64 (a : Int))
      have HR4 := Lib.hid R4
      have HA4 := Lib.hid hAR4
      obtain ⟨w4, hw4⟩ : ∃ w4, w4 = w3.setCell ⟨b, 1, none⟩ (.int .i64 (a : Int)) := ⟨_, rfl⟩
      have HW4 := Lib.hid hw4
      have hs4 : w4.heap.size = w3.heap.size := by rw [hw4]; simp
      rw [← hw4] at HR4 HA4 M4
      have HS4 := Lib.hid hs4
      clear m3 R3 hAR hAR4 R4 hw4 hs4
      go_wp2_with fail
      refine (ONE.out _ 11).mono ?_
      rintro r w5 ⟨sv5, rfl, hRF5, ⟨A5, c5, rfl⟩, m5⟩
      rw [← HW4.out] at m5 hRF5
      have hAR5 := HA4.out.mod m5 (by simp)
      have r0 := hAR5.cell 0 (by omega)
      have r1 := hAR5.cell 1 (by omega)
      have g0 := hAR5.free 0
      have g1 := hAR5.free 1
      simp only [if_true, if_false, Nat.reduceEqDiff] at r0 r1
      have R5 := HR4.out.mod0 m5
      have FIN : Hid (RRdPost w 132 b s (.string ⟨#[]⟩) [11] a (.returned (.tuple #[.string ⟨#[]⟩, .agg #[.slice A5 1 c5, .int .i64 a]]))
        ((w5.setCell ⟨w.heap.size, 0, none⟩ (.slice A5 1 c5)).setCell ⟨w.heap.size, 1, none⟩ (.int .i64 a))) := Lib.hid (by
        have ms : Mod [w.heap.size] w5 ((w5.setCell ⟨w.heap.size, 0, none⟩ (.slice A5 1 c5)).setCell ⟨w.heap.size, 1, none⟩ (.int .i64 a)) := ((Mod.refl _ _).setCell (.inl (by simp)) _).setCell (.inl (by simp)) _
        have hl4 := HA4.out.lt
        exact ⟨_, _, rfl, hRF5.mod ms (fun x hx => by simp at hx; simp; omega), fun x hx => by simp at hx; omega, R5.mod ms (by simp; omega), ((M4.out.trans m5.nil).fresh ms (fun x hx => .inr (by simp at hx; omega)))⟩)
      clear m5 hRF5 hAR5 R5
      go_wp2
      (try simp only [Exit.inBlock, Exit.then])
      refine bodyPost_ret (v := .tuple #[.string ⟨#[]⟩, .agg #[.slice A5 1 c5, .int .i64 a]]) ?_ rfl ?_
      · rw [results_tmp_cell rfl]
        go_simp
      · exact FIN.out
    have t1 : decide ((1024 : Int) < (N : Int)) = false := by simp; omega
    by_cases hsm : (s.size : Int) - a - 2 < N
    · have t2 : decide ((s.size : Int) - (a : Int) - 2 < (N : Int)) = true := by simpa using hsm
      have eL : rtL s a = [10] := by rw [A1.out, if_neg hbig, if_pos hsm]
      obtain ⟨eA, eS⟩ := A3.out (by rw [eL]; simp)
      rw [eL, eA, eS]
      clear eL eA eS A1 A2 A3 hsm hbig
      go_enter Tryd.func68, Tryd.ntmps68
      go_wp2_with fail
      rw [← HZ.out]
      refine P.out.mono ?_
      rintro r w1 ⟨v, E, rfl, hRF, hx, hR1, m1⟩
      obtain ⟨sv, av, rfl, ho, hg⟩ := hRF
      obtain ⟨A, cap, rfl, _⟩ := (own_slA ho).ex
      have hRF : RF w1 (.agg #[.slice A 0 cap, .int .i64 av]) [] E := ⟨_, _, rfl, ho, hg⟩
      obtain ⟨w2, hw2⟩ : ∃ w2, w2 = w1.alloc (.cells #[.slice A 0 cap, .int .i64 av] 112) := ⟨_, rfl⟩
      have m2 : Mod [] w1 w2 := by rw [hw2]; exact (Mod.refl _ _).alloc _
      have C := Lib.hid (rcode_calls w2 _ [] E (hRF.mod0 m2) (by simp))
      have HW2 := Lib.hid hw2
      have M2 := Lib.hid m2
      have M1 := Lib.hid m1
      have HR1 := Lib.hid hR1
      clear hRF ho m2 hw2 m1 hR1 c1'
      simp only [List.length_nil]
      go_wp2_with fail
      rw [← HW2.out]
      refine C.out.mono ?_
      rintro r w3 ⟨rfl, m3⟩
      simp only [List.headD_nil]
      have R3 := (HR1.out.mod0 M2.out).mod0 m3
      have f3 := Arr.free R3 1
      have q1 := R3.c1
      have R4 := R3.toI (c := a) (z := (a : Int)) rfl
      have hAR := ((RA.out.mod (M1.out) (by simp; omega)).mod M2.out (by simp)).mod m3 (by simp)
      have M4 := Lib.hid ((((M0.out.nil.trans M1.out).trans M2.out.nil).trans m3.nil).setCell (p := ⟨b, 1, none⟩) (.inl (by simp)) (.int .i64 a))
      have hAR4 := hAR.other (p := ⟨b, 1, none⟩) (by simp; omega) (.int .i64 (a : Int))
      have HR4 := Lib.hid R4
      have HA4 := Lib.hid hAR4
      obtain ⟨w4, hw4⟩ : ∃ w4, w4 = w3.setCell ⟨b, 1, none⟩ (.int .i64 (a : Int)) := ⟨_, rfl⟩
      have HW4 := Lib.hid hw4
      have hs4 : w4.heap.size = w3.heap.size := by rw [hw4]; simp
      rw [← hw4] at HR4 HA4 M4
      have HS4 := Lib.hid hs4
      clear m3 R3 hAR hAR4 R4 hw4 hs4
      have k0 := HR4.out.c0
      rw [HW4.out] at k0
      go_wp2_with fail
      refine (ONE.out _ 10).mono ?_
      rintro r w5 ⟨sv5, rfl, hRF5, ⟨A5, c5, rfl⟩, m5⟩
      rw [← HW4.out] at m5 hRF5
      have hAR5 := HA4.out.mod m5 (by simp)
      have r0 := hAR5.cell 0 (by omega)
      have r1 := hAR5.cell 1 (by omega)
      have g0 := hAR5.free 0
      have g1 := hAR5.free 1
      simp only [if_true, if_false, Nat.reduceEqDiff] at r0 r1
      have R5 := HR4.out.mod0 m5
      have FIN : Hid (RRdPost w 132 b s (.string ⟨#[]⟩) [10] a (.returned (.tuple #[.string ⟨#[]⟩, .agg #[.slice A5 1 c5, .int .i64 a]]))
        ((w5.setCell ⟨w.heap.size, 0, none⟩ (.slice A5 1 c5)).setCell ⟨w.heap.size, 1, none⟩ (.int .i64 a))) := Lib.hid (by
        have ms : Mod [w.heap.size] w5 ((w5.setCell ⟨w.heap.size, 0, none⟩ (.slice A5 1 c5)).setCell ⟨w.heap.size, 1, none⟩ (.int .i64 a)) := ((Mod.refl _ _).setCell (.inl (by simp)) _).setCell (.inl (by simp)) _
        have hl4 := HA4.out.lt
        exact ⟨_, _, rfl, hRF5.mod ms (fun x hx => by simp at hx; simp; omega), fun x hx => by simp at hx; omega, R5.mod ms (by simp; omega), ((M4.out.trans m5.nil).fresh ms (fun x hx => .inr (by simp at hx; omega)))⟩)
      clear m5 hRF5 hAR5 R5
      go_wp2
      (try simp only [Exit.inBlock, Exit.then])
      refine bodyPost_ret (v := .tuple #[.string ⟨#[]⟩, .agg #[.slice A5 1 c5, .int .i64 a]]) ?_ rfl ?_
      · rw [results_tmp_cell rfl]
        go_simp
      · exact FIN.out
    · have t2 : decide ((s.size : Int) - (a : Int) - 2 < (N : Int)) = false := by simpa using hsm
      have eL : rtL s a = [] := by rw [A1.out, if_neg hbig, if_neg hsm]
      obtain ⟨eA, eS⟩ := A2.out eL
      rw [eL, eA, eS]
      have hfit : a + 2 + N ≤ s.size := by omega
      clear eL eA eS A1 A2 A3 hsm hbig
      go_enter Tryd.func68, Tryd.ntmps68
      go_wp2_with fail
      rw [← HZ.out]
      refine P.out.mono ?_
      rintro r w1 ⟨v, E, rfl, hRF, hx, hR1, m1⟩
      obtain ⟨sv, av, rfl, ho, hg⟩ := hRF
      obtain ⟨A, cap, rfl, _⟩ := (own_slA ho).ex
      have hRF : RF w1 (.agg #[.slice A 0 cap, .int .i64 av]) [] E := ⟨_, _, rfl, ho, hg⟩
      obtain ⟨w2, hw2⟩ : ∃ w2, w2 = w1.alloc (.cells #[.slice A 0 cap, .int .i64 av] 112) := ⟨_, rfl⟩
      have m2 : Mod [] w1 w2 := by rw [hw2]; exact (Mod.refl _ _).alloc _
      have C := Lib.hid (rcode_calls w2 _ [] E (hRF.mod0 m2) (by simp))
      have HW2 := Lib.hid hw2
      have M2 := Lib.hid m2
      have M1 := Lib.hid m1
      have HR1 := Lib.hid hR1
      clear hRF ho m2 hw2 m1 hR1 c1'
      simp only [List.length_nil]
      go_wp2_with fail
      rw [← HW2.out]
      refine C.out.mono ?_
      rintro r w3 ⟨rfl, m3⟩
      simp only [List.headD_nil]
      have R3 := (HR1.out.mod0 M2.out).mod0 m3
      have f3 := Arr.free R3 1
      have q1 := R3.c1
      have R4 := R3.toI (c := a) (z := (a : Int)) rfl
      have hAR := ((RA.out.mod (M1.out) (by simp; omega)).mod M2.out (by simp)).mod m3 (by simp)
      have M4 := Lib.hid ((((M0.out.nil.trans M1.out).trans M2.out.nil).trans m3.nil).setCell (p := ⟨b, 1, none⟩) (.inl (by simp)) (.int .i64 a))
      have hAR4 := hAR.other (p := ⟨b, 1, none⟩) (by simp; omega) (.int .i64 (a : Int))
      have HR4 := Lib.hid R4
      have HA4 := Lib.hid hAR4
      obtain ⟨w4, hw4⟩ : ∃ w4, w4 = w3.setCell ⟨b, 1, none⟩ (.int .i64 (a : Int)) := ⟨_, rfl⟩
      have HW4 := Lib.hid hw4
      have hs4 : w4.heap.size = w3.heap.size := by rw [hw4]; simp
      rw [← hw4] at HR4 HA4 M4
      have HS4 := Lib.hid hs4
      clear m3 R3 hAR hAR4 R4 hw4 hs4
      have k0 := HR4.out.c0
      have f4 := Arr.free HR4.out 1
      have k1 := HR4.out.c1
      rw [HW4.out] at k0 f4 k1
      have hR6 := HR4.out.toI (c := a + 2 + N) (z := (a : Int) + 2 + (N : Int)) (by omega)
      have hA6 := HA4.out.other (p := ⟨b, 1, none⟩) (by simp; omega) (.int .i64 ((a : Int) + 2 + (N : Int)))
      have hl6 := HA4.out.lt
      have M6 := M4.out.setCell (p := ⟨b, 1, none⟩) (.inl (by simp)) (.int .i64 ((a : Int) + 2 + (N : Int)))
      have z0 := hR6.c0
      have z1 : (w4.setCell ⟨b, 1, none⟩ (.int .i64 ((a : Int) + 2 + (N : Int)))).cell? ⟨b, 1, none⟩ = some (.int .i64 ((a : Int) + 2 + (N : Int))) := by rw [hR6.c1]; congr 2 <;> omega
      obtain ⟨w6, hw6⟩ : ∃ w6, w6 = w4.setCell ⟨b, 1, none⟩ (.int .i64 ((a : Int) + 2 + (N : Int))) := ⟨_, rfl⟩
      rw [← hw6] at hR6 hA6 M6 z0 z1
      have r0 := hA6.cell 0 (by omega)
      have r1 := hA6.cell 1 (by omega)
      have g0 := hA6.free 0
      have g1 := hA6.free 1
      simp only [if_true, if_false, Nat.reduceEqDiff] at r0 r1
      have hs6 : w6.heap.size = w4.heap.size := by rw [hw6]; simp
      have HW6 := Lib.hid hw6
      have HR6 := Lib.hid hR6
      have HM6 := Lib.hid M6
      have n1 : ((a : Int) + 2).toNat = a + 2 := by omega
      have n2 : (0 : Int) ≤ (a : Int) + 2 := by omega
      have n3 : (a : Int) + 2 ≤ (a : Int) + 2 + (N : Int) := by omega
      have n4 : (a : Int) + 2 + (N : Int) ≤ (s.size : Int) := by omega
      have n5 : ((a : Int) + 2 + (N : Int)).toNat = a + 2 + N := by omega
      have n6 : (0 : Int) ≤ (a : Int) + 2 + (N : Int) := by omega
      have hl6' : w.heap.size < w6.heap.size := by omega
      have HL6 := Lib.hid hl6'
      clear hR6 hA6 M6 hw6 hs6 hl6'
      go_upto_region 11 with (fail)
      rw [← HW4.out, ← HW6.out]
      clear k0 f4 k1 q1 f3
      go_region
      have FIN : Hid (∀ w7, Mod [] w6 w7 → RRdPost w 132 b s (.string (s.extract (a + 2) (a + 2 + N))) [] (a + 2 + N) (.returned (.tuple #[.string (s.extract (a + 2) (a + 2 + N)), .agg #[.slice none 0 0, .int .i64 0]]))
        ((w7.setCell ⟨w.heap.size, 0, none⟩ (.slice none 0 0)).setCell ⟨w.heap.size, 1, none⟩ (.int .i64 0))) := Lib.hid (fun w7 m7 => by
        have ms : Mod [w.heap.size] w7 ((w7.setCell ⟨w.heap.size, 0, none⟩ (.slice none 0 0)).setCell ⟨w.heap.size, 1, none⟩ (.int .i64 0)) := ((Mod.refl _ _).setCell (.inl (by simp)) _).setCell (.inl (by simp)) _
        exact ⟨_, [], rfl, RF.none _, by simp, (HR6.out.mod0 m7).mod ms (by simp; omega), ((HM6.out.trans m7.nil).fresh ms (fun x hx => .inr (by simp at hx; omega)))⟩)
      go_wp2
      (try simp only [Exit.inBlock, Exit.then])
      refine bodyPost_ret (v := .tuple #[.string (s.extract (a + 2) (a + 2 + N)), .agg #[.slice none 0 0, .int .i64 0]]) ?_ rfl ?_
      · rw [results_tmp_cell rfl]
        go_simp
      · exact FIN.out _ ((Mod.refl [] w6).drew)
def REndPost (w : World) (s : ByteArray) (a : Nat) (r : Ending) (w' : World) : Prop := ∃ v E, r = .returned v ∧ RF w' v (endL s a) E ∧ (∀ x, x ∈ E → w.heap.size ≤ x) ∧ Mod [] w w'
set_option maxRecDepth 100000 in
set_option maxHeartbeats 2000000 in
theorem rrend_calls (w : World) (b : Nat) (s : ByteArray) (a : Nat) (hR : Rdr w 132 b s a) (ha : a ≤ s.size) (hs : s.size ≤ 1000000) :
    Calls Tryd.prog 69 #[.pointer (some ⟨b, 0, none⟩)] w (REndPost w s a) := by
  obtain ⟨w0, hw0⟩ : ∃ w0, w0 = w.alloc (.cells #[.slice none 0 0, .int .i64 0] 112) := ⟨_, rfl⟩
  have m0 : Mod [] w w0 := by rw [hw0]; exact (Mod.refl _ _).alloc _
  have RA : Hid (Arr w0 w.heap.size 112 2 (fun i => if i = 0 then .slice none 0 0 else .int .i64 0)) := Lib.hid (by rw [hw0]; exact res_arr w)
  have M0 := Lib.hid m0
  have HZ := Lib.hid hw0
  have h0 := hR.mod0 m0
  have c0 := h0.c0
  have c1 := h0.c1
  have hsz : w0.heap.size = w.heap.size + 1 := by rw [hw0]; simp
  have HSZ := Lib.hid hsz
  have ONE := Lib.hid (fun w1 => oneRF_calls w1 11 a)
  clear hR m0 hw0 h0 hsz
  by_cases h : a < s.size
  · have e : endL s a = [11] := by simp [endL, h]
    unfold REndPost
    rw [e]
    have i1 : (a : Int) < (s.size : Int) := by omega
    have t1 : decide (a < s.size) = true := by simpa using h
    clear e
    go_enter Tryd.func69, Tryd.ntmps69
    go_upto_region 1 with (fail)
    rw [← HZ.out]
    go_quiet (fail)
    go_wp2_with fail
    refine (ONE.out _).mono ?_
    rintro r w1 ⟨sv, rfl, hRF, ⟨A, c, rfl⟩, m1⟩
    have hAR := RA.out.mod (((Mod.refl [] w0).drewN _).trans m1) (by simp)
    have r0 := hAR.cell 0 (by omega)
    have r1 := hAR.cell 1 (by omega)
    have g0 := hAR.free 0
    have g1 := hAR.free 1
    simp only [if_true, if_false, Nat.reduceEqDiff] at r0 r1
    have ms : Mod [w.heap.size] w1 ((w1.setCell ⟨w.heap.size, 0, none⟩ (.slice A 1 c)).setCell ⟨w.heap.size, 1, none⟩ (.int .i64 a)) := ((Mod.refl _ _).setCell (.inl (by simp)) _).setCell (.inl (by simp)) _
    have F := Lib.hid (And.intro (hRF.mod ms (fun x hx => by have := HSZ.out; simp at hx; simp; omega)) (((M0.out.trans ((Mod.refl [] w0).drewN _)).trans m1).fresh ms (fun x hx => .inr (by simp at hx; omega))))
    clear hRF m1 hAR c0 c1 ms
    go_wp2
    (try simp only [Exit.inBlock, Exit.then])
    refine bodyPost_ret (v := .agg #[.slice A 1 c, .int .i64 a]) ?_ rfl ?_
    · rw [results_cell1 rfl]
      go_simp
    · exact ⟨_, _, rfl, F.out.1, fun x hx => by have := HSZ.out; simp at hx; omega, F.out.2⟩
  · have e : endL s a = [] := by simp [endL, h]
    have HEE := Lib.hid e
    have i1 : ¬ (a : Int) < (s.size : Int) := by omega
    have t1 : decide (a < s.size) = false := by simpa using h
    have hAR := RA.out
    have r0 := hAR.cell 0 (by omega)
    have r1 := hAR.cell 1 (by omega)
    have g0 := hAR.free 0
    have g1 := hAR.free 1
    simp only [if_true, if_false, Nat.reduceEqDiff] at r0 r1
    clear e hAR
    go_enter Tryd.func69, Tryd.ntmps69
    go_upto_region 1 with (fail)
    rw [← HZ.out]
    go_quiet (fail)
    have FIN : Hid (∀ w7, Mod [] w0 w7 → Mod [] w ((w7.setCell ⟨w.heap.size, 0, none⟩ (.slice none 0 0)).setCell ⟨w.heap.size, 1, none⟩ (.int .i64 0))) := Lib.hid (fun w7 m7 => (((M0.out.trans m7).setCell (.inr (Nat.le_refl _)) _).setCell (.inr (Nat.le_refl _)) _))
    have FD : Hid (Mod [] w0 (w0.drewN nq)) := Lib.hid ((Mod.refl _ _).drewN _)
    go_wp2
    (try simp only [Exit.inBlock, Exit.then])
    refine bodyPost_ret (v := .agg #[.slice none 0 0, .int .i64 0]) ?_ rfl ?_
    · rw [results_cell1 rfl]
      go_simp
    · exact ⟨_, [], rfl, by rw [HEE.out]; exact RF.none _, by simp, FIN.out _ FD.out⟩
end Go.Proofs.YtphcoenooinmfaaDoor
