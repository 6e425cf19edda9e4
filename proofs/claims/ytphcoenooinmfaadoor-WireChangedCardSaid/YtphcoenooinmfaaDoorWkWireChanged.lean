/- The walk of the law WireChanged: encoded bytes of which one is another one are not decoded; premises: the table of steps and errors' own type lie as laid. (Written by wip/tools/genWireChanged.py.) -/
import Derived.Test.YtphcoenooinmfaaDoorProg
import Derived.Test.YtphcoenooinmfaaDoorWireLaw2
import Derived.Test.YtphcoenooinmfaaDoorChB
import Derived.Test.YtphcoenooinmfaaDoorFIs
namespace Go.Proofs.YtphcoenooinmfaaDoor
open Go.RowKit
set_option linter.unusedVariables false
set_option linter.unusedSimpArgs false
attribute [local go_sem ↓] Go.wp_at_zero Go.wp_at_succ

theorem errL_head {m : Msg} : m.errL.headD 0 = m.chk := by
  unfold Msg.errL
  split
  · rename_i h; exact h.symm
  · rfl
theorem errL_len (m : Msg) : m.errL.length ≤ 1000 := by unfold Msg.errL; split <;> simp
/-- One byte that lies at g, as a text, wherever. -/
theorem conv1' (w : World) (g : Nat) (x : Int) (h0 : 0 ≤ x) (h1 : x ≤ 255) (h : w.cell? ⟨g, 0, none⟩ = some (.int .u8 x)) :
    (convert 80 9 (.slice (some ⟨g, 0, none⟩) 1 1)).run Tryd.prog w = .ok (.string ⟨#[UInt8.ofNat x.toNat]⟩) w := conv1 w g x h0 h1 h
/-- The place in the text. -/
theorem place (a : Int) (n : Nat) (hn : 0 < n) (hn2 : n ≤ 100000) : ∃ (z : Int) (k : Nat), a.tmod (n : Int) = z ∧ IntKind.i64.wrap (z + (n : Int)) = z + (n : Int) ∧ (z + (n : Int)).tmod (n : Int) = (k : Int) ∧ k < n := by
  have T0 : (0 : Int) < (n : Int) := by omega
  have h1 := Int.tmod_lt_of_pos a T0
  have h2 := Int.lt_tmod_of_pos a T0
  refine ⟨a.tmod n, ((a.tmod n + (n : Int)) % (n : Int)).toNat, rfl, ?_, ?_, ?_⟩
  · rw [IntKind.wrap_i64]; omega
  · rw [Int.tmod_eq_emod_of_nonneg (by omega)]
    have := Int.emod_nonneg (a.tmod n + (n : Int)) (show (n : Int) ≠ 0 by omega)
    omega
  · have := Int.emod_lt_of_pos (a.tmod n + (n : Int)) T0
    have := Int.emod_nonneg (a.tmod n + (n : Int)) (show (n : Int) ≠ 0 by omega)
    omega
/-- What changed bytes come to. -/
theorem ch_dec (m : Msg) (hc : m.chk = 0) (k : Nat) (hk : k < m.sealed.size) (u y : Int) (h0 : 0 ≤ u ∧ u ≤ 255) (hy : ((byteN m.sealed k : Int) + u) % 256 = y) :
    (u = 0 → chB m.sealed k (UInt8.ofNat y.toNat) = m.sealed) ∧ (u ≠ 0 → decL (chB m.sealed k (UInt8.ofNat y.toNat)) = [20] ∧ decR (chB m.sealed k (UInt8.ofNat y.toNat)) = Msg.zero) := by
  have hb := byte_lt m.sealed k
  have yN : (UInt8.ofNat y.toNat).toNat = y.toNat := byte_toNat (by omega)
  refine ⟨fun hu => ch_same _ _ _ hk (by rw [yN]; omega), fun hu => ?_⟩
  have es : m.sealed = sealB (txt m.bytes) := by unfold Msg.sealed; rw [if_pos hc]
  have h1 : okB (chB m.sealed k (UInt8.ofNat y.toNat)) = false := by
    have hy' : (UInt8.ofNat y.toNat).toNat ≠ byteN m.sealed k := by rw [yN]; omega
    rw [es] at hk hy' ⊢
    rw [seal_size] at hk
    exact ch_other _ _ _ hk hy'
  have h2 : decL (chB m.sealed k (UInt8.ofNat y.toNat)) = [20] := by unfold decL; rw [if_pos h1]
  exact ⟨h2, by unfold decR; rw [h2, if_neg (by simp)]⟩
theorem Errs.modMsg {w w' : World} {v : Value} {l : List Int} {E : List Nat} {b : Nat} {g : Nat → Value} (h : Errs w v l E) (hA : Arr w b 62 8 g) (m : Mod [b] w w') : Errs w' v l E := by
  induction h with
  | nil => exact .nil
  | @fault g' e a u l E hF _ ih =>
    refine .fault (hF.mod m ?_) ih
    intro hx
    simp at hx
    subst hx
    obtain ⟨c1, f1, _⟩ := hF
    obtain ⟨c2, f2, _⟩ := hA
    rw [f1] at f2
    injection f2 with f2
    injection f2 with _ f2
    exact absurd f2 (by decide)
  | num => exact .num
/-- Behind the drawn region: the decoded message lies somewhere of the law's own. -/
def ChRel (w3 : World) (z : Nat → Int) (f : ByteArray) (lt : List Int) (p v : Value) (wx : World) : Prop :=
  ∃ b E, p = .pointer (some ⟨b, 0, none⟩) ∧ Arr wx b 62 8 (msgF z f) ∧ Errs wx v lt E ∧ Mod [] w3 wx
theorem chrel_after {w3 w4 : World} {z : Nat → Int} {f : ByteArray} {lt : List Int} {v : Value} {E : List Nat} (hE : Errs w4 v lt E) (m : Mod [] w3 w4) :
    ChRel w3 z f lt (.pointer (some ⟨w4.heap.size, 0, none⟩)) v (w4.alloc (.cells #[.int .i64 (z 0), .int .i64 (z 1), .int .i64 (z 2), .int .i64 (z 3), .int .i64 (z 4), .int .i64 (z 5), .int .i64 (z 6), .string f] 62)) :=
  ⟨_, E, rfl, msg_new w4 z f, hE.mod0 ((Mod.refl _ _).alloc _), m.alloc _⟩
theorem chrel_before {w3 w4 : World} {z : Nat → Int} {f : ByteArray} {lt : List Int} {v : Value} {E : List Nat} {b : Nat} (hA : Arr w4 b 62 8 zeroF) (hE : Errs w4 v lt E) (m : Mod [] w3 w4) (hb : w3.heap.size ≤ b) :
    ChRel w3 z f lt (.pointer (some ⟨b, 0, none⟩)) v ((((((((w4.setCell ⟨b, 0, none⟩ (.int .i64 (z 0))).setCell ⟨b, 1, none⟩ (.int .i64 (z 1))).setCell ⟨b, 2, none⟩ (.int .i64 (z 2))).setCell ⟨b, 3, none⟩ (.int .i64 (z 3))).setCell ⟨b, 4, none⟩ (.int .i64 (z 4))).setCell ⟨b, 5, none⟩ (.int .i64 (z 5))).setCell ⟨b, 6, none⟩ (.int .i64 (z 6))).setCell ⟨b, 7, none⟩ (.string f)) := by
  have M : Mod [b] w4 ((((((((w4.setCell ⟨b, 0, none⟩ (.int .i64 (z 0))).setCell ⟨b, 1, none⟩ (.int .i64 (z 1))).setCell ⟨b, 2, none⟩ (.int .i64 (z 2))).setCell ⟨b, 3, none⟩ (.int .i64 (z 3))).setCell ⟨b, 4, none⟩ (.int .i64 (z 4))).setCell ⟨b, 5, none⟩ (.int .i64 (z 5))).setCell ⟨b, 6, none⟩ (.int .i64 (z 6))).setCell ⟨b, 7, none⟩ (.string f)) := by
    repeat (first | (with_reducible exact Mod.refl _ _) | (with_reducible refine Mod.setCell ?_ (.inl (by simp)) _))
  refine ⟨b, E, rfl, ?_, hE.modMsg hA M, m.fresh M (fun x hx => .inr (by simp at hx; omega))⟩
  refine ((((((((hA.set 0 _).set 1 _).set 2 _).set 3 _).set 4 _).set 5 _).set 6 _).set 7 _).congr fun i hi => ?_
  match i, hi with
  | 0, _ | 1, _ | 2, _ | 3, _ | 4, _ | 5, _ | 6, _ | 7, _ => rfl
set_option maxRecDepth 100000 in
set_option maxHeartbeats 64000000 in
theorem wireChanged_walk (W : World) (t0 : Steps W) (t1 : ErrT W) (s0 : Array Value) (c0 : CellsOk W [.int .i64, .int .i64, .int .i64, .int .i64, .int .i64, .int .i64, .int .i64, .str] s0.toList)
    (a1 : Int) (w1 : (Lit.int .i64 a1).wf = true)
    (a2 : Int) (w2 : (Lit.int .u8 a2).wf = true) :
    Calls Tryd.prog 12 #[.agg s0, .int .i64 a1, .int .u8 a2] W fun e w' => e = .returned (.bool true) ∧ Below W.heap.size W w' := by
  obtain ⟨m, rfl, hb, -⟩ := msg_inv c0
  have b2 := bd_u8 w2
  obtain ⟨b20, b21⟩ := b2
  clear c0 w1 w2
  obtain ⟨x, d⟩ := m
  unfold Msg.arr
  simp only at hb ⊢
  obtain ⟨w0, hw0⟩ : ∃ w0, w0 = W.alloc (.cells #[.int .i64 (x 0), .int .i64 (x 1), .int .i64 (x 2), .int .i64 (x 3), .int .i64 (x 4), .int .i64 (x 5), .int .i64 (x 6), .string d] 62) := ⟨_, rfl⟩
  have m0 : Mod [] W w0 := by rw [hw0]; exact (Mod.refl _ _).alloc _
  have A0 : Arr w0 W.heap.size 62 8 (msgF x d) := by rw [hw0]; exact msg_new W x d
  have HZ := Lib.hid hw0
  have M0 := Lib.hid m0
  have HA0 := Lib.hid A0
  by_cases hbig : 4096 < d.size
  · have hi : (4096 : Int) < (d.size : Int) := by omega
    clear hw0 m0 A0
    go_enter Tryd.func12, Tryd.ntmps12
    go_wp2
    go_ret
    exact ⟨rfl, by rw [← HZ.out]; exact M0.out.below (Nat.le_refl _) (by simp)⟩
  have hi : ¬ (4096 : Int) < (d.size : Int) := by omega
  have hB : Msg.Bd ⟨x, d⟩ := ⟨hb, by show d.size ≤ _; omega⟩
  have HB := Lib.hid hB
  have T0 := Lib.hid (And.intro t0 t1)
  have P1 := Lib.hid (encode_calls w0 x d hB (t0.mod m0 (by simp)))
  unfold EncPost at P1
  have hch := ch_dec ⟨x, d⟩
  have hds := @dec_sealed ⟨x, d⟩
  have hss := @sealed_size ⟨x, d⟩
  have hsb := @sealed_bad ⟨x, d⟩
  obtain ⟨S, hS⟩ : ∃ S, S = Msg.sealed ⟨x, d⟩ := ⟨_, rfl⟩
  obtain ⟨l, hl⟩ : ∃ l, l = Msg.errL ⟨x, d⟩ := ⟨_, rfl⟩
  obtain ⟨c, hc⟩ : ∃ c, c = Msg.chk ⟨x, d⟩ := ⟨_, rfl⟩
  have HS := Lib.hid hS
  have HC := Lib.hid hc
  have hl9 : l.length ≤ 1000 := by rw [hl]; exact errL_len _
  have hlc : l.headD 0 = c := by rw [hl, hc]; exact errL_head
  rw [← hS, ← hl] at P1
  rw [← hS, ← hc] at hch hds hss
  rw [← hS, ← hc] at hsb
  unfold Msg.arr at hds
  simp only at hds
  have HCH := Lib.hid hch
  have HDS := Lib.hid hds
  have HSS := Lib.hid hss
  have HSB := Lib.hid hsb
  have HLC := Lib.hid hlc
  have q0 := A0.cell 0 (by omega)
  have q1 := A0.cell 1 (by omega)
  have q2 := A0.cell 2 (by omega)
  have q3 := A0.cell 3 (by omega)
  have q4 := A0.cell 4 (by omega)
  have q5 := A0.cell 5 (by omega)
  have q6 := A0.cell 6 (by omega)
  have q7 := A0.cell 7 (by omega)
  unfold msgF at q0 q1 q2 q3 q4 q5 q6 q7
  simp only [if_true, if_false, Nat.reduceEqDiff] at q0 q1 q2 q3 q4 q5 q6 q7
  rw [hw0] at q0 q1 q2 q3 q4 q5 q6 q7
  clear hw0 hb hbig hB hS hl hc m0 A0 t0 t1 hlc hch hds hss hsb
  go_enter Tryd.func12, Tryd.ntmps12
  go_wp2_with fail
  rw [← HZ.out]
  (with_reducible refine P1.out.mono ?_)
  rintro r w1 ⟨v1, E1, rfl, hE1, m1⟩
  have A1 := Lib.hid (HA0.out.mod m1 (by simp))
  have M1 := Lib.hid (M0.out.trans m1)
  have X1 := Lib.hid hE1
  have P2 := Lib.hid (rencode_calls w1 x d HB.out)
  unfold REncPost at P2
  rw [← HS.out, ← HC.out] at P2
  clear m1 hE1 HA0 q0 q1 q2 q3 q4 q5 q6 q7
  have q0 := A1.out.cell 0 (by omega)
  have q1 := A1.out.cell 1 (by omega)
  have q2 := A1.out.cell 2 (by omega)
  have q3 := A1.out.cell 3 (by omega)
  have q4 := A1.out.cell 4 (by omega)
  have q5 := A1.out.cell 5 (by omega)
  have q6 := A1.out.cell 6 (by omega)
  have q7 := A1.out.cell 7 (by omega)
  unfold msgF at q0 q1 q2 q3 q4 q5 q6 q7
  simp only [if_true, if_false, Nat.reduceEqDiff] at q0 q1 q2 q3 q4 q5 q6 q7
  go_wp2_with fail
  (with_reducible refine P2.out.mono ?_)
  rintro r w2 ⟨rfl, m2⟩
  have A2 := Lib.hid (A1.out.mod m2 (by simp))
  have M2 := Lib.hid (M1.out.trans m2)
  have P3 := Lib.hid (code_calls w2 v1 l E1 (X1.out.mod0 m2) (T0.out.2.mod M2.out (by simp)) hl9)
  rw [HLC.out] at P3
  clear m2 A1 M1 X1 q0 q1 q2 q3 q4 q5 q6 q7
  go_wp2_with fail
  refine P3.out.mono ?_
  rintro r w3 ⟨rfl, m3⟩
  have A3 := Lib.hid (A2.out.mod m3 (by simp))
  have M3 := Lib.hid (M2.out.trans m3)
  clear m3 A2 M2
  by_cases hc0 : c = 0
  rotate_left
  · have hcb : (c == 0) = false := by simpa using hc0
    have hcn : (c != 0) = true := by simpa using hc0
    have eS : S = ⟨#[]⟩ := HSB.out hc0
    subst eS
    go_wp2
    go_ret
    exact ⟨rfl, M3.out.below (Nat.le_refl _) (by simp)⟩
  have hsz := HSS.out hc0
  obtain ⟨sz1, sz2⟩ := hsz
  have hds := HDS.out hc0
  have hch := HCH.out hc0
  subst hc0
  have T0' : (0 : Int) < (S.size : Int) := by omega
  have T2' : ((S.size : Int) == 0) = false := beq_eq_false_iff_ne.2 (by omega)
  have T3' : ¬ (S.size : Int) = 0 := by omega
  obtain ⟨q, k, hq, hwq, hk, hkt⟩ := place a1 S.size (by omega) (by omega)
  have hkk := hch k hkt a2
  have k0 : (0 : Int) ≤ (k : Int) := by omega
  have k1 : (k : Int) < (S.size : Int) := by omega
  have k2 : (k : Int) + 1 ≤ (S.size : Int) := by omega
  have k3 : (k : Int) ≤ (S.size : Int) := by omega
  have eb := byte_eq S k hkt
  have bl := byte_lt S k
  obtain ⟨y, hy⟩ : ∃ y : Int, ((byteN S k : Int) + a2) % 256 = y := ⟨_, rfl⟩
  have hy0 : 0 ≤ y := by omega
  have hy1 : y ≤ 255 := by omega
  have hkk2 := hkk y ⟨b20, b21⟩ hy
  obtain ⟨u, hu⟩ : ∃ u : ByteArray, u = ⟨#[UInt8.ofNat y.toNat]⟩ := ⟨_, rfl⟩
  have hus : u.size = 1 := by rw [hu]; rfl
  have ech : S.extract 0 k ++ u ++ S.extract (k + 1) S.size = chB S k (UInt8.ofNat y.toNat) := by rw [hu]; rfl
  have cz := ch_size S k (UInt8.ofNat y.toNat) hkt
  have hwu : IntKind.u8.wrap ((byteN S k : Int) + a2) = y := by rw [IntKind.wrap_u8]; exact hy
  have hwk : IntKind.i64.wrap ((k : Int) + 1) = (k : Int) + 1 := by rw [IntKind.wrap_i64]; omega
  have k4 : (0 : Int) ≤ (k : Int) + 1 := by omega
  have k5 : ¬ 9223372036854775807 < min k S.size + 1 := by omega
  have k6 : ¬ 9223372036854775807 < min k S.size + 1 + (S.size - (k + 1)) := by omega
  have cv := fun (w : World) (g : Nat) (h : w.cell? ⟨g, 0, none⟩ = some (.int .u8 y)) => conv1' w g y hy0 hy1 h
  rw [← hu] at cv
  generalize hch9 : chB S k (UInt8.ofNat y.toNat) = ch at *
  have chs : ch.size ≤ 100000 := by omega
  have TG := Lib.hid (fun w' (mm : Mod [] w3 w') => decode_calls w' ch chs (T0.out.1.mod (M3.out.trans mm) (by simp)) (T0.out.2.mod (M3.out.trans mm) (by simp)))
  have HKK := Lib.hid hkk2
  have HDSS := Lib.hid hds
  unfold DecPost at TG
  obtain ⟨R, hR⟩ : ∃ R, R = decR ch := ⟨_, rfl⟩
  obtain ⟨lt, hlt⟩ : ∃ lt, lt = decL ch := ⟨_, rfl⟩
  have HR := Lib.hid (And.intro hR hlt)
  simp only [← hR, ← hlt] at TG
  obtain ⟨z, f⟩ := R
  unfold Msg.arr at TG
  simp only at TG
  have ZA : Arr ((w3.alloc (.cells #[.int .i64 0, .int .i64 0, .int .i64 0, .int .i64 0, .int .i64 0, .int .i64 0, .int .i64 0, .string ⟨#[]⟩] 62)).alloc (.cells #[.int .u8 y] 5)).drew w3.heap.size 62 8 zeroF := (zero_arr w3).mod (((Mod.refl [] _).alloc _).drew) (by simp)
  have ZB : Arr ((w3.alloc (.cells #[.int .u8 y] 5)).alloc (.cells #[.int .i64 0, .int .i64 0, .int .i64 0, .int .i64 0, .int .i64 0, .int .i64 0, .int .i64 0, .string ⟨#[]⟩] 62)).drew (w3.heap.size + 1) 62 8 zeroF := by
    have h9 := (zero_arr (w3.alloc (.cells #[.int .u8 y] 5))).mod ((Mod.refl [] _).drew) (by simp)
    have e9 : (w3.alloc (.cells #[.int .u8 y] 5)).heap.size = w3.heap.size + 1 := by simp
    rw [e9] at h9
    exact h9
  have HZA := Lib.hid ZA
  have HZB := Lib.hid ZB
  clear hds hch hkk hkk2 hu cz hy hch9 ZA ZB hR hlt
  go_upto_region 10 with (fail)
  go_cut [12, 13] from 55 to 74 (fun p s13 wx => ChRel w3 z f lt p s13 wx)
  case first =>
    refine wp_region_held_drew (S := fun _ => True) (by kernel_rfl) trivial (fun hHeld => ?_)
    refine wpAnyH_take (i := 0) (oi := ?_) (v := ?_) ?_ (by kernel_rfl) (by kernel_rfl) (by kernel_rfl) ?_ ?_ (by assumption) ?_
    rotate_left 2
    · simp only [List.getElem?_toArray, List.getElem?_cons_succ, List.getElem?_cons_zero]
      all_goals (with_reducible rfl)
    · exact fun _ _ _ h => h
    · refine Or.inl ⟨by rfl, ?_⟩
      intro w hSw
      go_simp
      all_goals (with_reducible rfl)
    (try simp only [Act.put, List.setIfInBounds_toArray, List.set_cons_zero, List.set_cons_succ])
    refine wpAnyH_take (i := 1) (oi := ?_) (v := ?_) ?_ (by kernel_rfl) (by kernel_rfl) (by kernel_rfl) ?_ ?_ (by assumption) ?_
    rotate_left 2
    · simp only [List.getElem?_toArray, List.getElem?_cons_succ, List.getElem?_cons_zero]
      all_goals (with_reducible rfl)
    · exact fun _ _ _ h => h
    · refine Or.inl ⟨by rfl, ?_⟩
      intro w hSw
      go_simp
      all_goals (with_reducible rfl)
    (try simp only [Act.put, List.setIfInBounds_toArray, List.set_cons_zero, List.set_cons_succ])
    refine wpAnyH_take (i := 2) (oi := ?_) (v := ?_) ?_ (by kernel_rfl) (by kernel_rfl) (by kernel_rfl) ?_ ?_ (by assumption) ?_
    rotate_left 2
    · simp only [List.getElem?_toArray, List.getElem?_cons_succ, List.getElem?_cons_zero]
      all_goals (with_reducible rfl)
    · exact fun _ _ _ h => h
    · refine Or.inl ⟨by rfl, ?_⟩
      intro w hSw
      go_simp
      all_goals (with_reducible rfl)
    (try simp only [Act.put, List.setIfInBounds_toArray, List.set_cons_zero, List.set_cons_succ])
    refine wpAnyH_take (i := 3) (oi := ?_) (v := ?_) ?_ (by kernel_rfl) (by kernel_rfl) (by kernel_rfl) ?_ ?_ (by assumption) ?_
    rotate_left 2
    · simp only [List.getElem?_toArray, List.getElem?_cons_succ, List.getElem?_cons_zero]
      all_goals (with_reducible rfl)
    · exact fun _ _ _ h => h
    · refine Or.inl ⟨by rfl, ?_⟩
      intro w hSw
      go_simp
      all_goals (with_reducible rfl)
    (try simp only [Act.put, List.setIfInBounds_toArray, List.set_cons_zero, List.set_cons_succ])
    refine wpAnyH_take (i := 4) (oi := ?_) (v := ?_) ?_ (by kernel_rfl) (by kernel_rfl) (by kernel_rfl) ?_ ?_ (by assumption) ?_
    rotate_left 2
    · simp only [List.getElem?_toArray, List.getElem?_cons_succ, List.getElem?_cons_zero]
      all_goals (with_reducible rfl)
    · exact fun _ _ _ h => h
    · refine Or.inl ⟨by rfl, ?_⟩
      intro w hSw
      go_simp
      all_goals (with_reducible rfl)
    (try simp only [Act.put, List.setIfInBounds_toArray, List.set_cons_zero, List.set_cons_succ])
    refine wpAnyH_take (i := 5) (oi := ?_) (v := ?_) ?_ (by kernel_rfl) (by kernel_rfl) (by kernel_rfl) ?_ ?_ (by assumption) ?_
    rotate_left 2
    · simp only [List.getElem?_toArray, List.getElem?_cons_succ, List.getElem?_cons_zero]
      all_goals (with_reducible rfl)
    · exact fun _ _ _ h => h
    · refine Or.inl ⟨by rfl, ?_⟩
      intro w hSw
      go_simp
      all_goals (with_reducible rfl)
    (try simp only [Act.put, List.setIfInBounds_toArray, List.set_cons_zero, List.set_cons_succ])
    refine wpAnyH_take (i := 6) (oi := ?_) (v := ?_) ?_ (by kernel_rfl) (by kernel_rfl) (by kernel_rfl) ?_ ?_ (by assumption) ?_
    rotate_left 2
    · simp only [List.getElem?_toArray, List.getElem?_cons_succ, List.getElem?_cons_zero]
      all_goals (with_reducible rfl)
    · exact fun _ _ _ h => h
    · refine Or.inl ⟨by rfl, ?_⟩
      intro w hSw
      go_simp
      all_goals (with_reducible rfl)
    (try simp only [Act.put, List.setIfInBounds_toArray, List.set_cons_zero, List.set_cons_succ])
    refine wpAnyH_take (i := 7) (oi := ?_) (v := ?_) ?_ (by kernel_rfl) (by kernel_rfl) (by kernel_rfl) ?_ ?_ (by assumption) ?_
    rotate_left 2
    · simp only [List.getElem?_toArray, List.getElem?_cons_succ, List.getElem?_cons_zero]
      all_goals (with_reducible rfl)
    · exact fun _ _ _ h => h
    · refine Or.inl ⟨by rfl, ?_⟩
      intro w hSw
      go_simp
      all_goals (with_reducible rfl)
    (try simp only [Act.put, List.setIfInBounds_toArray, List.set_cons_zero, List.set_cons_succ])
    refine wpAnyH_take (i := 11) (oi := ?_) (v := ?_) ?_ (by kernel_rfl) (by kernel_rfl) (by kernel_rfl) ?_ ?_ (by assumption) ?_
    rotate_left 2
    · simp only [List.getElem?_toArray, List.getElem?_cons_succ, List.getElem?_cons_zero]
      all_goals (with_reducible rfl)
    · exact fun _ _ _ h => h
    · refine Or.inl ⟨by rfl, ?_⟩
      intro w hSw
      go_simp
      all_goals (with_reducible rfl)
    (try simp only [Act.put, List.setIfInBounds_toArray, List.set_cons_zero, List.set_cons_succ])
    refine wpAnyH_take (i := 12) (oi := ?_) (v := ?_) ?_ (by kernel_rfl) (by kernel_rfl) (by kernel_rfl) ?_ ?_ (by assumption) ?_
    rotate_left 2
    · simp only [List.getElem?_toArray, List.getElem?_cons_succ, List.getElem?_cons_zero]
      all_goals (with_reducible rfl)
    · exact fun _ _ _ h => h
    · refine Or.inl ⟨by rfl, ?_⟩
      intro w hSw
      go_simp
      all_goals (with_reducible rfl)
    (try simp only [Act.put, List.setIfInBounds_toArray, List.set_cons_zero, List.set_cons_succ])
    refine wpAnyH_take (i := 13) (oi := ?_) (v := ?_) ?_ (by kernel_rfl) (by kernel_rfl) (by kernel_rfl) ?_ ?_ (by assumption) ?_
    rotate_left 2
    · simp only [List.getElem?_toArray, List.getElem?_cons_succ, List.getElem?_cons_zero]
      all_goals (with_reducible rfl)
    · exact fun _ _ _ h => h
    · refine Or.inl ⟨by rfl, ?_⟩
      intro w hSw
      go_simp
      all_goals (with_reducible rfl)
    (try simp only [Act.put, List.setIfInBounds_toArray, List.set_cons_zero, List.set_cons_succ])
    refine wpAnyH_take (i := 14) (oi := ?_) (v := ?_) ?_ (by kernel_rfl) (by kernel_rfl) (by kernel_rfl) ?_ ?_ (by assumption) ?_
    rotate_left 2
    · simp only [List.getElem?_toArray, List.getElem?_cons_succ, List.getElem?_cons_zero]
      all_goals (with_reducible rfl)
    · exact fun _ _ _ h => h
    · refine Or.inl ⟨by rfl, ?_⟩
      intro w hSw
      go_simp
      all_goals (with_reducible rfl)
    (try simp only [Act.put, List.setIfInBounds_toArray, List.set_cons_zero, List.set_cons_succ])
    refine wpAnyH_ready (rs := [8, 20]) (by kernel_rfl) (by simp) ?_
    refine AllReadyH.cons (o := ?_) ?_ (fun K hK => ?_) ?_
    rotate_left
    · simp only [List.getElem?_toArray, List.getElem?_cons_succ, List.getElem?_cons_zero]
      all_goals (with_reducible rfl)
    · go_simp
      refine hK.out _ _ trivial (fun hHeld => ?_)
      clear hK K
      (try simp only [Act.put, List.setIfInBounds_toArray, List.set_cons_zero, List.set_cons_succ])
      refine wpAnyH_ready (rs := [9, 20]) (by kernel_rfl) (by simp) ?_
      refine AllReadyH.cons (o := ?_) ?_ (fun K hK => ?_) ?_
      rotate_left
      · simp only [List.getElem?_toArray, List.getElem?_cons_succ, List.getElem?_cons_zero]
        all_goals (with_reducible rfl)
      · go_simp
        refine hK.out _ _ trivial (fun hHeld => ?_)
        clear hK K
        (try simp only [Act.put, List.setIfInBounds_toArray, List.set_cons_zero, List.set_cons_succ])
        refine wpAnyH_take (i := 10) (oi := ?_) (v := ?_) ?_ (by kernel_rfl) (by kernel_rfl) (by kernel_rfl) ?_ ?_ (by assumption) ?_
        rotate_left 2
        · simp only [List.getElem?_toArray, List.getElem?_cons_succ, List.getElem?_cons_zero]
          all_goals (with_reducible rfl)
        · exact fun _ _ _ h => h
        · refine Or.inl ⟨by rfl, ?_⟩
          intro w hSw
          go_simp
          all_goals (with_reducible rfl)
        (try simp only [Act.put, List.setIfInBounds_toArray, List.set_cons_zero, List.set_cons_succ])
        refine wpAnyH_take (i := 15) (oi := ?_) (v := ?_) ?_ (by kernel_rfl) (by kernel_rfl) (by kernel_rfl) ?_ ?_ (by assumption) ?_
        rotate_left 2
        · simp only [List.getElem?_toArray, List.getElem?_cons_succ, List.getElem?_cons_zero]
          all_goals (with_reducible rfl)
        · exact fun _ _ _ h => h
        · refine Or.inl ⟨by rfl, ?_⟩
          intro w hSw
          go_simp
          all_goals (with_reducible rfl)
        (try simp only [Act.put, List.setIfInBounds_toArray, List.set_cons_zero, List.set_cons_succ])
        refine wpAnyH_ready (rs := [16, 20]) (by kernel_rfl) (by simp) ?_
        refine AllReadyH.cons (o := ?_) ?_ (fun K hK => ?_) ?_
        rotate_left
        · simp only [List.getElem?_toArray, List.getElem?_cons_succ, List.getElem?_cons_zero]
          all_goals (with_reducible rfl)
        · go_simp
          go_at_call 35
          refine (TG.out _ (by exact (((Mod.refl [] w3).alloc (.cells #[.int .u8 y] 5)).drew))).mono ?_
          rintro r w4 ⟨v4, E4, rfl, hE4, m4⟩
          have M4 := Lib.hid ((((Mod.refl [] w3).alloc (.cells #[.int .u8 y] 5)).drew).trans m4)
          have X4 := Lib.hid hE4
          clear m4 hE4
          (try go_wp2_with fail)
          refine hK.out _ _ trivial (fun hHeld => ?_)
          clear hK K
          (try simp only [Act.put, List.setIfInBounds_toArray, List.set_cons_zero, List.set_cons_succ])
          refine wpAnyH_take (i := 17) (oi := ?_) (v := ?_) ?_ (by kernel_rfl) (by kernel_rfl) (by kernel_rfl) ?_ ?_ (by assumption) ?_
          rotate_left 2
          · simp only [List.getElem?_toArray, List.getElem?_cons_succ, List.getElem?_cons_zero]
            all_goals (with_reducible rfl)
          · exact fun _ _ _ h => h
          · refine Or.inl ⟨by rfl, ?_⟩
            intro w hSw
            go_simp
            all_goals (with_reducible rfl)
          (try simp only [Act.put, List.setIfInBounds_toArray, List.set_cons_zero, List.set_cons_succ])
          refine wpAnyH_take (i := 18) (oi := ?_) (v := ?_) ?_ (by kernel_rfl) (by kernel_rfl) (by kernel_rfl) ?_ ?_ (by assumption) ?_
          rotate_left 2
          · simp only [List.getElem?_toArray, List.getElem?_cons_succ, List.getElem?_cons_zero]
            all_goals (with_reducible rfl)
          · exact fun _ _ _ h => h
          · refine Or.inl ⟨by rfl, ?_⟩
            intro w hSw
            go_simp
            all_goals (with_reducible rfl)
          (try simp only [Act.put, List.setIfInBounds_toArray, List.set_cons_zero, List.set_cons_succ])
          refine wpAnyH_take (i := 19) (oi := ?_) (v := ?_) ?_ (by kernel_rfl) (by kernel_rfl) (by kernel_rfl) ?_ ?_ (by assumption) ?_
          rotate_left 2
          · simp only [List.getElem?_toArray, List.getElem?_cons_succ, List.getElem?_cons_zero]
            all_goals (with_reducible rfl)
          · exact fun _ _ _ h => h
          · refine Or.inl ⟨by rfl, ?_⟩
            intro w hSw
            go_simp
            all_goals (with_reducible rfl)
          (try simp only [Act.put, List.setIfInBounds_toArray, List.set_cons_zero, List.set_cons_succ])
          refine wpAnyH_ready (rs := [20]) (by kernel_rfl) (by simp) ?_
          refine AllReadyH.cons (o := ?_) ?_ (fun K hK => ?_) ?_
          rotate_left
          · simp only [List.getElem?_toArray, List.getElem?_cons_succ, List.getElem?_cons_zero]
            all_goals (with_reducible rfl)
          · go_simp
            refine hK.out _ _ trivial (fun hHeld => ?_)
            clear hK K
            (try simp only [Act.put, List.setIfInBounds_toArray, List.set_cons_zero, List.set_cons_succ])
            refine wpAnyH_ready (rs := [21]) (by kernel_rfl) (by simp) ?_
            refine AllReadyH.cons (o := ?_) ?_ (fun K hK => ?_) ?_
            rotate_left
            · simp only [List.getElem?_toArray, List.getElem?_cons_succ, List.getElem?_cons_zero]
              all_goals (with_reducible rfl)
            · go_simp
              refine hK.out _ _ trivial (fun hHeld => ?_)
              clear hK K
              (try simp only [Act.put, List.setIfInBounds_toArray, List.set_cons_zero, List.set_cons_succ])
              refine wpAnyH_take (i := 22) (oi := ?_) (v := ?_) ?_ (by kernel_rfl) (by kernel_rfl) (by kernel_rfl) ?_ ?_ (by assumption) ?_
              rotate_left 2
              · simp only [List.getElem?_toArray, List.getElem?_cons_succ, List.getElem?_cons_zero]
                all_goals (with_reducible rfl)
              · exact fun _ _ _ h => h
              · refine Or.inl ⟨by rfl, ?_⟩
                intro w hSw
                go_simp
                all_goals (with_reducible rfl)
              (try simp only [Act.put, List.setIfInBounds_toArray, List.set_cons_zero, List.set_cons_succ])
              refine wpAnyH_done (by kernel_rfl) ?_ _
              go_wp2_with fail
              go_meet
              with_reducible exact chrel_after X4.out M4.out
            exact AllReadyH.nil
          exact AllReadyH.nil
        refine AllReadyH.cons (o := ?_) ?_ (fun K hK => ?_) ?_
        rotate_left
        · simp only [List.getElem?_toArray, List.getElem?_cons_succ, List.getElem?_cons_zero]
          all_goals (with_reducible rfl)
        · go_simp
          refine hK.out _ _ trivial (fun hHeld => ?_)
          clear hK K
          (try simp only [Act.put, List.setIfInBounds_toArray, List.set_cons_zero, List.set_cons_succ])
          refine wpAnyH_ready (rs := [16]) (by kernel_rfl) (by simp) ?_
          refine AllReadyH.cons (o := ?_) ?_ (fun K hK => ?_) ?_
          rotate_left
          · simp only [List.getElem?_toArray, List.getElem?_cons_succ, List.getElem?_cons_zero]
            all_goals (with_reducible rfl)
          · go_simp
            go_at_call 35
            refine (TG.out _ (by exact ((((Mod.refl [] w3).alloc (.cells #[.int .u8 y] 5)).alloc (.cells #[.int .i64 0, .int .i64 0, .int .i64 0, .int .i64 0, .int .i64 0, .int .i64 0, .int .i64 0, .string ⟨#[]⟩] 62)).drew))).mono ?_
            rintro r w4 ⟨v4, E4, rfl, hE4, m4⟩
            have M4 := Lib.hid (((((Mod.refl [] w3).alloc (.cells #[.int .u8 y] 5)).alloc (.cells #[.int .i64 0, .int .i64 0, .int .i64 0, .int .i64 0, .int .i64 0, .int .i64 0, .int .i64 0, .string ⟨#[]⟩] 62)).drew).trans m4)
            have X4 := Lib.hid hE4
            have ZZ := HZB.out.mod m4 (by simp)
            have HZZ := Lib.hid ZZ
            have p0 := ZZ.cell 0 (by omega)
            have p1 := ZZ.cell 1 (by omega)
            have p2 := ZZ.cell 2 (by omega)
            have p3 := ZZ.cell 3 (by omega)
            have p4 := ZZ.cell 4 (by omega)
            have p5 := ZZ.cell 5 (by omega)
            have p6 := ZZ.cell 6 (by omega)
            have p7 := ZZ.cell 7 (by omega)
            have g0 := ZZ.free 0
            have g1 := ZZ.free 1
            have g2 := ZZ.free 2
            have g3 := ZZ.free 3
            have g4 := ZZ.free 4
            have g5 := ZZ.free 5
            have g6 := ZZ.free 6
            have g7 := ZZ.free 7
            simp only [zeroF, if_true, if_false, Nat.reduceEqDiff] at p0 p1 p2 p3 p4 p5 p6 p7
            clear ZZ
            clear m4 hE4
            (try go_wp2_with fail)
            refine hK.out _ _ trivial (fun hHeld => ?_)
            clear hK K
            (try simp only [Act.put, List.setIfInBounds_toArray, List.set_cons_zero, List.set_cons_succ])
            refine wpAnyH_take (i := 17) (oi := ?_) (v := ?_) ?_ (by kernel_rfl) (by kernel_rfl) (by kernel_rfl) ?_ ?_ (by assumption) ?_
            rotate_left 2
            · simp only [List.getElem?_toArray, List.getElem?_cons_succ, List.getElem?_cons_zero]
              all_goals (with_reducible rfl)
            · exact fun _ _ _ h => h
            · refine Or.inl ⟨by rfl, ?_⟩
              intro w hSw
              go_simp
              all_goals (with_reducible rfl)
            (try simp only [Act.put, List.setIfInBounds_toArray, List.set_cons_zero, List.set_cons_succ])
            refine wpAnyH_take (i := 18) (oi := ?_) (v := ?_) ?_ (by kernel_rfl) (by kernel_rfl) (by kernel_rfl) ?_ ?_ (by assumption) ?_
            rotate_left 2
            · simp only [List.getElem?_toArray, List.getElem?_cons_succ, List.getElem?_cons_zero]
              all_goals (with_reducible rfl)
            · exact fun _ _ _ h => h
            · refine Or.inl ⟨by rfl, ?_⟩
              intro w hSw
              go_simp
              all_goals (with_reducible rfl)
            (try simp only [Act.put, List.setIfInBounds_toArray, List.set_cons_zero, List.set_cons_succ])
            refine wpAnyH_take (i := 19) (oi := ?_) (v := ?_) ?_ (by kernel_rfl) (by kernel_rfl) (by kernel_rfl) ?_ ?_ (by assumption) ?_
            rotate_left 2
            · simp only [List.getElem?_toArray, List.getElem?_cons_succ, List.getElem?_cons_zero]
              all_goals (with_reducible rfl)
            · exact fun _ _ _ h => h
            · refine Or.inl ⟨by rfl, ?_⟩
              intro w hSw
              go_simp
              all_goals (with_reducible rfl)
            (try simp only [Act.put, List.setIfInBounds_toArray, List.set_cons_zero, List.set_cons_succ])
            refine wpAnyH_ready (rs := [21]) (by kernel_rfl) (by simp) ?_
            refine AllReadyH.cons (o := ?_) ?_ (fun K hK => ?_) ?_
            rotate_left
            · simp only [List.getElem?_toArray, List.getElem?_cons_succ, List.getElem?_cons_zero]
              all_goals (with_reducible rfl)
            · go_simp
              refine hK.out _ _ trivial (fun hHeld => ?_)
              clear hK K
              (try simp only [Act.put, List.setIfInBounds_toArray, List.set_cons_zero, List.set_cons_succ])
              refine wpAnyH_take (i := 22) (oi := ?_) (v := ?_) ?_ (by kernel_rfl) (by kernel_rfl) (by kernel_rfl) ?_ ?_ (by assumption) ?_
              rotate_left 2
              · simp only [List.getElem?_toArray, List.getElem?_cons_succ, List.getElem?_cons_zero]
                all_goals (with_reducible rfl)
              · exact fun _ _ _ h => h
              · refine Or.inl ⟨by rfl, ?_⟩
                intro w hSw
                go_simp
                all_goals (with_reducible rfl)
              (try simp only [Act.put, List.setIfInBounds_toArray, List.set_cons_zero, List.set_cons_succ])
              refine wpAnyH_done (by kernel_rfl) ?_ _
              go_wp2_with fail
              go_meet
              with_reducible exact chrel_before HZZ.out X4.out M4.out (by first | omega | exact Nat.le_refl _)
            exact AllReadyH.nil
          exact AllReadyH.nil
        exact AllReadyH.nil
      refine AllReadyH.cons (o := ?_) ?_ (fun K hK => ?_) ?_
      rotate_left
      · simp only [List.getElem?_toArray, List.getElem?_cons_succ, List.getElem?_cons_zero]
        all_goals (with_reducible rfl)
      · go_simp
        refine hK.out _ _ trivial (fun hHeld => ?_)
        clear hK K
        (try simp only [Act.put, List.setIfInBounds_toArray, List.set_cons_zero, List.set_cons_succ])
        refine wpAnyH_ready (rs := [9]) (by kernel_rfl) (by simp) ?_
        refine AllReadyH.cons (o := ?_) ?_ (fun K hK => ?_) ?_
        rotate_left
        · simp only [List.getElem?_toArray, List.getElem?_cons_succ, List.getElem?_cons_zero]
          all_goals (with_reducible rfl)
        · go_simp
          refine hK.out _ _ trivial (fun hHeld => ?_)
          clear hK K
          (try simp only [Act.put, List.setIfInBounds_toArray, List.set_cons_zero, List.set_cons_succ])
          refine wpAnyH_take (i := 10) (oi := ?_) (v := ?_) ?_ (by kernel_rfl) (by kernel_rfl) (by kernel_rfl) ?_ ?_ (by assumption) ?_
          rotate_left 2
          · simp only [List.getElem?_toArray, List.getElem?_cons_succ, List.getElem?_cons_zero]
            all_goals (with_reducible rfl)
          · exact fun _ _ _ h => h
          · refine Or.inl ⟨by rfl, ?_⟩
            intro w hSw
            go_simp
            all_goals (with_reducible rfl)
          (try simp only [Act.put, List.setIfInBounds_toArray, List.set_cons_zero, List.set_cons_succ])
          refine wpAnyH_take (i := 15) (oi := ?_) (v := ?_) ?_ (by kernel_rfl) (by kernel_rfl) (by kernel_rfl) ?_ ?_ (by assumption) ?_
          rotate_left 2
          · simp only [List.getElem?_toArray, List.getElem?_cons_succ, List.getElem?_cons_zero]
            all_goals (with_reducible rfl)
          · exact fun _ _ _ h => h
          · refine Or.inl ⟨by rfl, ?_⟩
            intro w hSw
            go_simp
            all_goals (with_reducible rfl)
          (try simp only [Act.put, List.setIfInBounds_toArray, List.set_cons_zero, List.set_cons_succ])
          refine wpAnyH_ready (rs := [16]) (by kernel_rfl) (by simp) ?_
          refine AllReadyH.cons (o := ?_) ?_ (fun K hK => ?_) ?_
          rotate_left
          · simp only [List.getElem?_toArray, List.getElem?_cons_succ, List.getElem?_cons_zero]
            all_goals (with_reducible rfl)
          · go_simp
            go_at_call 35
            refine (TG.out _ (by exact ((((Mod.refl [] w3).alloc (.cells #[.int .u8 y] 5)).alloc (.cells #[.int .i64 0, .int .i64 0, .int .i64 0, .int .i64 0, .int .i64 0, .int .i64 0, .int .i64 0, .string ⟨#[]⟩] 62)).drew))).mono ?_
            rintro r w4 ⟨v4, E4, rfl, hE4, m4⟩
            have M4 := Lib.hid (((((Mod.refl [] w3).alloc (.cells #[.int .u8 y] 5)).alloc (.cells #[.int .i64 0, .int .i64 0, .int .i64 0, .int .i64 0, .int .i64 0, .int .i64 0, .int .i64 0, .string ⟨#[]⟩] 62)).drew).trans m4)
            have X4 := Lib.hid hE4
            have ZZ := HZB.out.mod m4 (by simp)
            have HZZ := Lib.hid ZZ
            have p0 := ZZ.cell 0 (by omega)
            have p1 := ZZ.cell 1 (by omega)
            have p2 := ZZ.cell 2 (by omega)
            have p3 := ZZ.cell 3 (by omega)
            have p4 := ZZ.cell 4 (by omega)
            have p5 := ZZ.cell 5 (by omega)
            have p6 := ZZ.cell 6 (by omega)
            have p7 := ZZ.cell 7 (by omega)
            have g0 := ZZ.free 0
            have g1 := ZZ.free 1
            have g2 := ZZ.free 2
            have g3 := ZZ.free 3
            have g4 := ZZ.free 4
            have g5 := ZZ.free 5
            have g6 := ZZ.free 6
            have g7 := ZZ.free 7
            simp only [zeroF, if_true, if_false, Nat.reduceEqDiff] at p0 p1 p2 p3 p4 p5 p6 p7
            clear ZZ
            clear m4 hE4
            (try go_wp2_with fail)
            refine hK.out _ _ trivial (fun hHeld => ?_)
            clear hK K
            (try simp only [Act.put, List.setIfInBounds_toArray, List.set_cons_zero, List.set_cons_succ])
            refine wpAnyH_take (i := 17) (oi := ?_) (v := ?_) ?_ (by kernel_rfl) (by kernel_rfl) (by kernel_rfl) ?_ ?_ (by assumption) ?_
            rotate_left 2
            · simp only [List.getElem?_toArray, List.getElem?_cons_succ, List.getElem?_cons_zero]
              all_goals (with_reducible rfl)
            · exact fun _ _ _ h => h
            · refine Or.inl ⟨by rfl, ?_⟩
              intro w hSw
              go_simp
              all_goals (with_reducible rfl)
            (try simp only [Act.put, List.setIfInBounds_toArray, List.set_cons_zero, List.set_cons_succ])
            refine wpAnyH_take (i := 18) (oi := ?_) (v := ?_) ?_ (by kernel_rfl) (by kernel_rfl) (by kernel_rfl) ?_ ?_ (by assumption) ?_
            rotate_left 2
            · simp only [List.getElem?_toArray, List.getElem?_cons_succ, List.getElem?_cons_zero]
              all_goals (with_reducible rfl)
            · exact fun _ _ _ h => h
            · refine Or.inl ⟨by rfl, ?_⟩
              intro w hSw
              go_simp
              all_goals (with_reducible rfl)
            (try simp only [Act.put, List.setIfInBounds_toArray, List.set_cons_zero, List.set_cons_succ])
            refine wpAnyH_take (i := 19) (oi := ?_) (v := ?_) ?_ (by kernel_rfl) (by kernel_rfl) (by kernel_rfl) ?_ ?_ (by assumption) ?_
            rotate_left 2
            · simp only [List.getElem?_toArray, List.getElem?_cons_succ, List.getElem?_cons_zero]
              all_goals (with_reducible rfl)
            · exact fun _ _ _ h => h
            · refine Or.inl ⟨by rfl, ?_⟩
              intro w hSw
              go_simp
              all_goals (with_reducible rfl)
            (try simp only [Act.put, List.setIfInBounds_toArray, List.set_cons_zero, List.set_cons_succ])
            refine wpAnyH_ready (rs := [21]) (by kernel_rfl) (by simp) ?_
            refine AllReadyH.cons (o := ?_) ?_ (fun K hK => ?_) ?_
            rotate_left
            · simp only [List.getElem?_toArray, List.getElem?_cons_succ, List.getElem?_cons_zero]
              all_goals (with_reducible rfl)
            · go_simp
              refine hK.out _ _ trivial (fun hHeld => ?_)
              clear hK K
              (try simp only [Act.put, List.setIfInBounds_toArray, List.set_cons_zero, List.set_cons_succ])
              refine wpAnyH_take (i := 22) (oi := ?_) (v := ?_) ?_ (by kernel_rfl) (by kernel_rfl) (by kernel_rfl) ?_ ?_ (by assumption) ?_
              rotate_left 2
              · simp only [List.getElem?_toArray, List.getElem?_cons_succ, List.getElem?_cons_zero]
                all_goals (with_reducible rfl)
              · exact fun _ _ _ h => h
              · refine Or.inl ⟨by rfl, ?_⟩
                intro w hSw
                go_simp
                all_goals (with_reducible rfl)
              (try simp only [Act.put, List.setIfInBounds_toArray, List.set_cons_zero, List.set_cons_succ])
              refine wpAnyH_done (by kernel_rfl) ?_ _
              go_wp2_with fail
              go_meet
              with_reducible exact chrel_before HZZ.out X4.out M4.out (by first | omega | exact Nat.le_refl _)
            exact AllReadyH.nil
          exact AllReadyH.nil
        exact AllReadyH.nil
      exact AllReadyH.nil
    refine AllReadyH.cons (o := ?_) ?_ (fun K hK => ?_) ?_
    rotate_left
    · simp only [List.getElem?_toArray, List.getElem?_cons_succ, List.getElem?_cons_zero]
      all_goals (with_reducible rfl)
    · go_simp
      refine hK.out _ _ trivial (fun hHeld => ?_)
      clear hK K
      (try simp only [Act.put, List.setIfInBounds_toArray, List.set_cons_zero, List.set_cons_succ])
      refine wpAnyH_ready (rs := [8]) (by kernel_rfl) (by simp) ?_
      refine AllReadyH.cons (o := ?_) ?_ (fun K hK => ?_) ?_
      rotate_left
      · simp only [List.getElem?_toArray, List.getElem?_cons_succ, List.getElem?_cons_zero]
        all_goals (with_reducible rfl)
      · go_simp
        refine hK.out _ _ trivial (fun hHeld => ?_)
        clear hK K
        (try simp only [Act.put, List.setIfInBounds_toArray, List.set_cons_zero, List.set_cons_succ])
        refine wpAnyH_ready (rs := [9]) (by kernel_rfl) (by simp) ?_
        refine AllReadyH.cons (o := ?_) ?_ (fun K hK => ?_) ?_
        rotate_left
        · simp only [List.getElem?_toArray, List.getElem?_cons_succ, List.getElem?_cons_zero]
          all_goals (with_reducible rfl)
        · go_simp
          refine hK.out _ _ trivial (fun hHeld => ?_)
          clear hK K
          (try simp only [Act.put, List.setIfInBounds_toArray, List.set_cons_zero, List.set_cons_succ])
          refine wpAnyH_take (i := 10) (oi := ?_) (v := ?_) ?_ (by kernel_rfl) (by kernel_rfl) (by kernel_rfl) ?_ ?_ (by assumption) ?_
          rotate_left 2
          · simp only [List.getElem?_toArray, List.getElem?_cons_succ, List.getElem?_cons_zero]
            all_goals (with_reducible rfl)
          · exact fun _ _ _ h => h
          · refine Or.inl ⟨by rfl, ?_⟩
            intro w hSw
            go_simp
            all_goals (with_reducible rfl)
          (try simp only [Act.put, List.setIfInBounds_toArray, List.set_cons_zero, List.set_cons_succ])
          refine wpAnyH_take (i := 15) (oi := ?_) (v := ?_) ?_ (by kernel_rfl) (by kernel_rfl) (by kernel_rfl) ?_ ?_ (by assumption) ?_
          rotate_left 2
          · simp only [List.getElem?_toArray, List.getElem?_cons_succ, List.getElem?_cons_zero]
            all_goals (with_reducible rfl)
          · exact fun _ _ _ h => h
          · refine Or.inl ⟨by rfl, ?_⟩
            intro w hSw
            go_simp
            all_goals (with_reducible rfl)
          (try simp only [Act.put, List.setIfInBounds_toArray, List.set_cons_zero, List.set_cons_succ])
          refine wpAnyH_ready (rs := [16]) (by kernel_rfl) (by simp) ?_
          refine AllReadyH.cons (o := ?_) ?_ (fun K hK => ?_) ?_
          rotate_left
          · simp only [List.getElem?_toArray, List.getElem?_cons_succ, List.getElem?_cons_zero]
            all_goals (with_reducible rfl)
          · go_simp
            go_at_call 35
            refine (TG.out _ (by exact ((((Mod.refl [] w3).alloc (.cells #[.int .i64 0, .int .i64 0, .int .i64 0, .int .i64 0, .int .i64 0, .int .i64 0, .int .i64 0, .string ⟨#[]⟩] 62)).alloc (.cells #[.int .u8 y] 5)).drew))).mono ?_
            rintro r w4 ⟨v4, E4, rfl, hE4, m4⟩
            have M4 := Lib.hid (((((Mod.refl [] w3).alloc (.cells #[.int .i64 0, .int .i64 0, .int .i64 0, .int .i64 0, .int .i64 0, .int .i64 0, .int .i64 0, .string ⟨#[]⟩] 62)).alloc (.cells #[.int .u8 y] 5)).drew).trans m4)
            have X4 := Lib.hid hE4
            have ZZ := HZA.out.mod m4 (by simp)
            have HZZ := Lib.hid ZZ
            have p0 := ZZ.cell 0 (by omega)
            have p1 := ZZ.cell 1 (by omega)
            have p2 := ZZ.cell 2 (by omega)
            have p3 := ZZ.cell 3 (by omega)
            have p4 := ZZ.cell 4 (by omega)
            have p5 := ZZ.cell 5 (by omega)
            have p6 := ZZ.cell 6 (by omega)
            have p7 := ZZ.cell 7 (by omega)
            have g0 := ZZ.free 0
            have g1 := ZZ.free 1
            have g2 := ZZ.free 2
            have g3 := ZZ.free 3
            have g4 := ZZ.free 4
            have g5 := ZZ.free 5
            have g6 := ZZ.free 6
            have g7 := ZZ.free 7
            simp only [zeroF, if_true, if_false, Nat.reduceEqDiff] at p0 p1 p2 p3 p4 p5 p6 p7
            clear ZZ
            clear m4 hE4
            (try go_wp2_with fail)
            refine hK.out _ _ trivial (fun hHeld => ?_)
            clear hK K
            (try simp only [Act.put, List.setIfInBounds_toArray, List.set_cons_zero, List.set_cons_succ])
            refine wpAnyH_take (i := 17) (oi := ?_) (v := ?_) ?_ (by kernel_rfl) (by kernel_rfl) (by kernel_rfl) ?_ ?_ (by assumption) ?_
            rotate_left 2
            · simp only [List.getElem?_toArray, List.getElem?_cons_succ, List.getElem?_cons_zero]
              all_goals (with_reducible rfl)
            · exact fun _ _ _ h => h
            · refine Or.inl ⟨by rfl, ?_⟩
              intro w hSw
              go_simp
              all_goals (with_reducible rfl)
            (try simp only [Act.put, List.setIfInBounds_toArray, List.set_cons_zero, List.set_cons_succ])
            refine wpAnyH_take (i := 18) (oi := ?_) (v := ?_) ?_ (by kernel_rfl) (by kernel_rfl) (by kernel_rfl) ?_ ?_ (by assumption) ?_
            rotate_left 2
            · simp only [List.getElem?_toArray, List.getElem?_cons_succ, List.getElem?_cons_zero]
              all_goals (with_reducible rfl)
            · exact fun _ _ _ h => h
            · refine Or.inl ⟨by rfl, ?_⟩
              intro w hSw
              go_simp
              all_goals (with_reducible rfl)
            (try simp only [Act.put, List.setIfInBounds_toArray, List.set_cons_zero, List.set_cons_succ])
            refine wpAnyH_take (i := 19) (oi := ?_) (v := ?_) ?_ (by kernel_rfl) (by kernel_rfl) (by kernel_rfl) ?_ ?_ (by assumption) ?_
            rotate_left 2
            · simp only [List.getElem?_toArray, List.getElem?_cons_succ, List.getElem?_cons_zero]
              all_goals (with_reducible rfl)
            · exact fun _ _ _ h => h
            · refine Or.inl ⟨by rfl, ?_⟩
              intro w hSw
              go_simp
              all_goals (with_reducible rfl)
            (try simp only [Act.put, List.setIfInBounds_toArray, List.set_cons_zero, List.set_cons_succ])
            refine wpAnyH_ready (rs := [21]) (by kernel_rfl) (by simp) ?_
            refine AllReadyH.cons (o := ?_) ?_ (fun K hK => ?_) ?_
            rotate_left
            · simp only [List.getElem?_toArray, List.getElem?_cons_succ, List.getElem?_cons_zero]
              all_goals (with_reducible rfl)
            · go_simp
              refine hK.out _ _ trivial (fun hHeld => ?_)
              clear hK K
              (try simp only [Act.put, List.setIfInBounds_toArray, List.set_cons_zero, List.set_cons_succ])
              refine wpAnyH_take (i := 22) (oi := ?_) (v := ?_) ?_ (by kernel_rfl) (by kernel_rfl) (by kernel_rfl) ?_ ?_ (by assumption) ?_
              rotate_left 2
              · simp only [List.getElem?_toArray, List.getElem?_cons_succ, List.getElem?_cons_zero]
                all_goals (with_reducible rfl)
              · exact fun _ _ _ h => h
              · refine Or.inl ⟨by rfl, ?_⟩
                intro w hSw
                go_simp
                all_goals (with_reducible rfl)
              (try simp only [Act.put, List.setIfInBounds_toArray, List.set_cons_zero, List.set_cons_succ])
              refine wpAnyH_done (by kernel_rfl) ?_ _
              go_wp2_with fail
              go_meet
              with_reducible exact chrel_before HZZ.out X4.out M4.out (by first | omega | exact Nat.le_refl _)
            exact AllReadyH.nil
          exact AllReadyH.nil
        exact AllReadyH.nil
      exact AllReadyH.nil
    exact AllReadyH.nil
  case rest =>
    obtain ⟨b, E, rfl, hA, hE, mx⟩ := hcut
    have AX := Lib.hid (A3.out.mod mx (by simp))
    have MX := Lib.hid (M3.out.trans mx)
    have HE := Lib.hid hE
    have HAB := Lib.hid hA
    clear hA hE mx HZA HZB TG
    by_cases h0 : a2 = 0
    · have ech := HKK.out.1 h0
      obtain ⟨d1, d2⟩ := HDSS.out
      have er : (Msg.arr ⟨z, f⟩) = (Msg.arr ⟨x, d⟩) := by rw [HR.out.1, ech]; exact d2
      obtain ⟨ex, ed⟩ := arr_inv er
      have el : lt = [] := by rw [HR.out.2, ech, d1]
      have B2 : Arr wc b 62 8 (msgF x d) := HAB.out.congr fun i hi => by
        unfold msgF
        by_cases h7 : i = 7
        · rw [if_pos h7, if_pos h7]; exact congrArg _ ed
        · rw [if_neg h7, if_neg h7]; exact congrArg _ (ex i (by omega))
      subst el
      subst h0
      have P4 := Lib.hid (code_calls wc u13 [] E HE.out (T0.out.2.mod MX.out (by simp)) (by simp))
      simp only [List.headD_nil] at P4
      have q0 := B2.cell 0 (by omega)
      have q1 := B2.cell 1 (by omega)
      have q2 := B2.cell 2 (by omega)
      have q3 := B2.cell 3 (by omega)
      have q4 := B2.cell 4 (by omega)
      have q5 := B2.cell 5 (by omega)
      have q6 := B2.cell 6 (by omega)
      have q7 := B2.cell 7 (by omega)
      have p0 := AX.out.cell 0 (by omega)
      have p1 := AX.out.cell 1 (by omega)
      have p2 := AX.out.cell 2 (by omega)
      have p3 := AX.out.cell 3 (by omega)
      have p4 := AX.out.cell 4 (by omega)
      have p5 := AX.out.cell 5 (by omega)
      have p6 := AX.out.cell 6 (by omega)
      have p7 := AX.out.cell 7 (by omega)
      unfold msgF at q0 q1 q2 q3 q4 q5 q6 q7 p0 p1 p2 p3 p4 p5 p6 p7
      simp only [if_true, if_false, Nat.reduceEqDiff] at q0 q1 q2 q3 q4 q5 q6 q7 p0 p1 p2 p3 p4 p5 p6 p7
      clear ech d1 d2 er ex ed B2
      go_wp2_with fail
      refine P4.out.mono ?_
      rintro r w5 ⟨rfl, m5⟩
      have M5 := Lib.hid (MX.out.trans m5)
      clear m5
      go_wp2
      go_ret
      exact ⟨rfl, M5.out.below (Nat.le_refl _) (by simp)⟩
    · obtain ⟨e1, e2⟩ := HKK.out.2 h0
      have el : lt = [20] := by rw [HR.out.2, e1]
      have er : (⟨z, f⟩ : Msg) = Msg.zero := by rw [HR.out.1, e2]
      unfold Msg.zero at er
      injection er with ez ef
      subst ez
      subst ef
      subst el
      have hu0 : (a2 == 0) = false := by simpa using h0
      have hun : (a2 != 0) = true := by simpa using h0
      have P4 := Lib.hid (code_calls wc u13 [20] E HE.out (T0.out.2.mod MX.out (by simp)) (by simp))
      simp only [List.headD_cons] at P4
      have q0 := HAB.out.cell 0 (by omega)
      have q1 := HAB.out.cell 1 (by omega)
      have q2 := HAB.out.cell 2 (by omega)
      have q3 := HAB.out.cell 3 (by omega)
      have q4 := HAB.out.cell 4 (by omega)
      have q5 := HAB.out.cell 5 (by omega)
      have q6 := HAB.out.cell 6 (by omega)
      have q7 := HAB.out.cell 7 (by omega)
      unfold msgF at q0 q1 q2 q3 q4 q5 q6 q7
      simp only [if_true, if_false, Nat.reduceEqDiff] at q0 q1 q2 q3 q4 q5 q6 q7
      clear e1 e2
      go_wp2_with fail
      refine P4.out.mono ?_
      rintro r w5 ⟨rfl, m5⟩
      have M5 := Lib.hid (MX.out.trans m5)
      have P5 := Lib.hid (fieldIs_yes w5 u13 20 E (HE.out.mod0 m5) (T0.out.2.mod M5.out (by simp)) (by omega))
      have X5 := Lib.hid (HE.out.mod0 m5)
      clear m5
      go_wp2_with fail
      refine P5.out.mono ?_
      rintro r w6 ⟨rfl, m6⟩
      have M6 := Lib.hid (M5.out.trans m6)
      have P6 := Lib.hid (fieldIs_no w6 u13 20 30 E (X5.out.mod0 m6) (T0.out.2.mod M6.out (by simp)) (by omega) (by omega))
      clear m6
      go_wp2_with fail
      refine P6.out.mono ?_
      rintro r w7 ⟨rfl, m7⟩
      have M7 := Lib.hid (M6.out.trans m7)
      clear m7
      go_wp2
      go_ret
      exact ⟨rfl, M7.out.below (Nat.le_refl _) (by simp)⟩
end Go.Proofs.YtphcoenooinmfaaDoor

