/- The document's Decode: what it comes to. No condition. (Written by wip/tools/genWire6.py.) -/
import Derived.Test.YtphcoenooinmfaaDoorWire5
namespace Go.Proofs.YtphcoenooinmfaaDoor
open Go.RowKit
set_option linter.unusedVariables false
set_option linter.unusedSimpArgs false
attribute [local go_sem ↓] Go.wp_at_zero Go.wp_at_succ

def RDecPost (w : World) (s : ByteArray) (r : Ending) (w' : World) : Prop :=
  ∃ vl, r = .returned (.tuple #[.agg (decR s).arr, vl]) ∧ w'.ownsRow 0 22 1 vl (decL s).length (ints (decL s)) ∧ Mod [] w w'
theorem int_info : (Tryd.prog.info? 3).map (fun i => (i.zero, i.size, i.bytes)) = some (some (.int .i64 0), 1, 8) := by kernel_rfl
def decNs (t : ByteArray) (j : Nat) : List Int := (List.range j).map (decN t)
theorem decNs_succ (t : ByteArray) (j : Nat) : decNs t j ++ [decN t j] = decNs t (j + 1) := by simp [decNs, List.range_succ]
theorem decNs_len (t : ByteArray) (j : Nat) : (decNs t j).length = j := by simp [decNs]
theorem decNs_get (t : ByteArray) (j i : Nat) (h : i < j) : (ints (decNs t j)).getD (i * 1) undef = .int .i64 (decN t i) := by
  unfold ints decNs
  simp [List.getD_eq_getElem?_getD, List.getElem?_range h]
theorem own_empty (w : World) (base : Nat) (e : TypeId) (sz : Nat) (h : base ≤ w.heap.size) : (w.alloc (.cells #[] e)).ownsRow base e sz (.slice (some ⟨w.heap.size, 0, none⟩) 0 0) 0 [] :=
  ⟨by simp, .inr ⟨w.heap.size, 0, #[], rfl, h, heap_alloc_new w _, Nat.le_refl _, by decide, by simp, by simp⟩⟩
def widF (i : Nat) : Value := .int .i64 (wid i)
theorem rdL_shape (s : ByteArray) (a : Nat) (k : Int) : rdL s a k = [] ∨ ∃ c, rdL s a k = [c] ∧ c ≠ 0 := by
  unfold rdL
  split
  · exact .inr ⟨1, rfl, by omega⟩
  · split
    · exact .inr ⟨10, rfl, by omega⟩
    · split
      · exact .inr ⟨11, rfl, by omega⟩
      · exact .inl rfl
theorem rtL_shape (s : ByteArray) (a : Nat) : rtL s a = [] ∨ ∃ c l, rtL s a = c :: l ∧ c ≠ 0 := by
  unfold rtL
  split
  · rcases rdL_shape s a 2 with h | ⟨c, h, hc⟩
    · rename_i hn; exact absurd h hn
    · exact .inr ⟨c, [c], by rw [h]; rfl, hc⟩
  · split
    · exact .inr ⟨11, [], rfl, by omega⟩
    · split
      · exact .inr ⟨10, [], rfl, by omega⟩
      · exact .inl rfl
theorem endL_shape (s : ByteArray) (a : Nat) : endL s a = [] ∨ ∃ c l, endL s a = c :: l ∧ c ≠ 0 := by
  unfold endL
  split
  · exact .inr ⟨11, [], rfl, by omega⟩
  · exact .inl rfl
theorem own_cells {w : World} {base e n g cap : Nat} {xs : List Value} (h : w.ownsRow base e 1 (.slice (some ⟨g, 0, none⟩) n cap) n xs) : ∀ (j : Nat) u, xs[j]? = some u → w.cell? ⟨g, j, none⟩ = some u := by
  intro j u hu
  have := h.cells (g := g) rfl j u hu
  have e1 : (⟨g, 0, none⟩ : Addr).add j = ⟨g, j, none⟩ := by
    unfold Addr.add
    by_cases z1 : j = 0 <;> simp [z1]
  rw [← e1]
  exact this
theorem ints_one (l : List Int) : ∀ u ∈ ints l, u.oneCell' = true := by
  intro u hu
  simp only [ints, List.mem_map] at hu
  obtain ⟨x, _, rfl⟩ := hu
  rfl
set_option maxRecDepth 100000 in
set_option maxHeartbeats 1000000 in
theorem rdecode_calls (w : World) (s : ByteArray) (hs : s.size ≤ 100000) :
    Calls Tryd.prog 36 #[.string s] w (RDecPost w s) := by
  obtain ⟨w0, hw0⟩ : ∃ w0, w0 = w.alloc (.cells zeroA 62) := ⟨_, rfl⟩
  have m0 : Mod [] w w0 := by rw [hw0]; exact (Mod.refl _ _).alloc _
  have A0 : Arr w0 w.heap.size 62 8 zeroF := by rw [hw0]; exact zero_arr w
  have O := Lib.hid (ropen_calls w0 s (by omega))
  have HA0 := Lib.hid A0
  have M0 := Lib.hid m0
  unfold zeroA at hw0
  have HZ := Lib.hid hw0
  have hz0 : w.heap.size < w0.heap.size := A0.lt
  unfold OpenPost at O
  have hts := body_le s
  obtain ⟨t, ht⟩ : ∃ t, t = bodyB s := ⟨_, rfl⟩
  have HTB := Lib.hid ht
  rw [← ht] at O hts
  clear hw0 A0 m0 ht
  cases hk : okB s with
  | false =>
    rw [hk] at O
    have e1 : decL s = [20] := by unfold decL; rw [if_pos hk]
    have e2 : decR s = Msg.zero := by unfold decR; rw [e1, if_neg (by simp)]
    have E1 := Lib.hid e1
    have E2 := Lib.hid e2
    clear e1 e2 hk
    go_enter Tryd.func36, Tryd.ntmps36
    go_wp2_with fail
    rw [← HZ.out]
    refine O.out.mono ?_
    rintro e w1 ⟨rfl, m1⟩
    have M1 := Lib.hid (M0.out.trans m1)
    have A1 := HA0.out.mod m1 (by simp)
    have hz1 := A1.lt
    have r0 := A1.cell 0 (by omega)
    have r1 := A1.cell 1 (by omega)
    have r2 := A1.cell 2 (by omega)
    have r3 := A1.cell 3 (by omega)
    have r4 := A1.cell 4 (by omega)
    have r5 := A1.cell 5 (by omega)
    have r6 := A1.cell 6 (by omega)
    have r7 := A1.cell 7 (by omega)
    have g0 := A1.free 0
    have g1 := A1.free 1
    have g2 := A1.free 2
    have g3 := A1.free 3
    have g4 := A1.free 4
    have g5 := A1.free 5
    have g6 := A1.free 6
    have g7 := A1.free 7
    simp only [zeroF, if_true, if_false, Nat.reduceEqDiff] at r0 r1 r2 r3 r4 r5 r6 r7

    have F : Hid (∀ w9', Mod [w.heap.size] w1 w9' → w9'.heap.size = w1.heap.size → RDecPost w s (.returned (.tuple #[.agg zeroA, .slice (some ⟨w1.heap.size, 0, none⟩) 1 1])) (w9'.alloc (.cells #[.int .i64 20] 22))) := Lib.hid (fun w9' m9 hz9 => ⟨_, by rw [E2.out]; rfl, by rw [E1.out, ← hz9]; exact own_one w9' 20, (M1.out.fresh m9 (fun x hx => .inr (by simp at hx; omega))).alloc _⟩)
    clear m1 A1
    go_wp2
    (try simp only [Exit.inBlock, Exit.then])
    refine bodyPost_ret (v := .tuple #[.agg #[.int .i64 0, .int .i64 0, .int .i64 0, .int .i64 0, .int .i64 0, .int .i64 0, .int .i64 0, .string ⟨#[]⟩], .slice (some ⟨w1.heap.size, 0, none⟩) 1 1]) ?_ rfl ?_
    · rw [results_cell_tmp rfl]
      go_simp
    · refine F.out _ ?_ (by simp)
      repeat (first | (with_reducible exact Mod.refl _ _) | (with_reducible refine Mod.setCell ?_ (.inl (by simp)) _))
  | true =>
    rw [hk] at O
    have e1 : decL s = decFrom t 7 0 := by rw [HTB.out]; unfold decL; rw [if_neg (by rw [hk]; simp)]
    have e2 : decL s ≠ [] → decR s = Msg.zero := fun h => by unfold decR; rw [if_neg h]
    have e3 : decL s = [] → decR s = decM t := fun h => by rw [HTB.out]; unfold decR; rw [if_pos h]
    have E1 := Lib.hid e1
    have E2 := Lib.hid e2
    have E3 := Lib.hid e3
    clear e1 e2 e3 hk
    go_enter Tryd.func36, Tryd.ntmps36
    go_wp2_with fail
    rw [← HZ.out]
    refine O.out.mono ?_
    rintro e w1 ⟨rfl, m1⟩
    obtain ⟨w2, hw2⟩ : ∃ w2, w2 = w1.alloc (.cells #[.string t, .int .i64 0] 132) := ⟨_, rfl⟩
    obtain ⟨w3, hw3⟩ : ∃ w3, w3 = w2.alloc (.cells #[.int .i64 1, .int .i64 1, .int .i64 1, .int .i64 8, .int .i64 8, .int .i64 2, .int .i64 2] 3) := ⟨_, rfl⟩
    obtain ⟨w4, hw4⟩ : ∃ w4, w4 = w3.alloc (.cells #[] 3) := ⟨_, rfl⟩
    have hz2 : w2.heap.size = w1.heap.size + 1 := by rw [hw2]; simp
    have hz3 : w3.heap.size = w1.heap.size + 1 + 1 := by rw [hw3]; simp [hz2]
    have m2 : Mod [] w1 w2 := by rw [hw2]; exact (Mod.refl _ _).alloc _
    have m3 : Mod [] w2 w3 := by rw [hw3]; exact (Mod.refl _ _).alloc _
    have m4 : Mod [] w3 w4 := by rw [hw4]; exact (Mod.refl _ _).alloc _
    have R2 : Rdr w2 132 w1.heap.size t 0 := by rw [hw2]; exact Rdr.new w1 _ t
    have W3 : Arr w3 (w1.heap.size + 1) 3 7 widF := by
      rw [← hz2, hw3]
      exact Arr.new' w2 _ _ 7 _ rfl (fun i hi => by
        match i, hi with
        | 0, _ | 1, _ | 2, _ | 3, _ | 4, _ | 5, _ | 6, _ => rfl)
    have O4 : w4.ownsRow w3.heap.size 3 1 (.slice (some ⟨w1.heap.size + 1 + 1, 0, none⟩) 0 0) 0 (ints (decNs t 0)) := by
      rw [← hz3, hw4]
      exact own_empty w3 _ _ _ (Nat.le_refl _)
    have A1 := HA0.out.mod m1 (by simp)
    have hz1 := A1.lt
    have A3 := (A1.mod m2 (by simp)).mod m3 (by simp)
    have R3 := R2.mod0 m3
    have HM3 := Lib.hid (((M0.out.trans m1).trans m2).trans m3)
    have HA3 := Lib.hid A3
    have HR3 := Lib.hid R3
    have HW3 := Lib.hid W3
    have HO4 := Lib.hid O4
    have HM4 := Lib.hid m4
    have HZ3 := Lib.hid hz3
    rw [hw3, hw2] at hw4
    have HW4 := Lib.hid hw4
    have hb9 : w1.heap.size + 1 + 1 ≤ w3.heap.size := by omega
    clear m1 m2 m3 m4 R2 W3 O4 A1 A3 R3 hw2 hw3 hw4 hz2
    go_wp2
    rw [← HW4.out]
    obtain ⟨rb, hrb⟩ : ∃ rb, rb = w1.heap.size := ⟨_, rfl⟩
    obtain ⟨wb, hwb⟩ : ∃ wb, wb = w1.heap.size + 1 := ⟨_, rfl⟩
    obtain ⟨nb, hnb⟩ : ∃ nb, nb = w1.heap.size + 1 + 1 := ⟨_, rfl⟩
    rw [← hnb] at HO4 hz3 hb9 ⊢
    rw [← hwb] at HW3 ⊢
    rw [← hrb] at HR3 hz1 ⊢
    have hrw : rb < wb ∧ wb < nb := by omega
    obtain ⟨hrw1, hrw2⟩ := hrw
    clear hrb hwb hnb hz3 HZ3
    go_loopw [8, 9] (fun v i wr => ∃ (j : Nat) (v' : Value), v = v' ∧ j ≤ 7 ∧ i = .int .i64 j ∧ wr.ownsRow w3.heap.size 3 1 v' j (ints (decNs t j)) ∧ Rdr wr 132 rb t (decA t j) ∧ Mod [rb] w3 wr ∧ decFrom t 7 0 = decFrom t (7 - j) j) (fun _ i _ => 7 - (intOf i).toNat)
    case atStart => exact ⟨0, _, rfl, by omega, rfl, HO4.out, HR3.out.mod0 HM4.out, HM4.out.nil, rfl⟩
    case round =>
      obtain ⟨j, v', rfl, hj, rfl, hown, hR, hM, hE⟩ := hrel
      have HO := Lib.hid hown
      have HR := Lib.hid hR
      have HM := Lib.hid hM
      have HE := Lib.hid hE
      have AA := Lib.hid (HA3.out.mod hM (by simp; omega))
      have WW := Lib.hid (HW3.out.mod hM (by simp; omega))
      have hzr := hM.size
      clear hown hR hM hE
      by_cases hlt : j < 7
      · have i0 : (0 : Int) ≤ (j : Int) := by omega
        have i1 : (j : Int) < 7 := by omega
        have q0 : wr.cell? ⟨wb, j, none⟩ = some (.int .i64 (wid j)) := WW.out.cell j hlt
        obtain ⟨k0, k1⟩ := wid_bd j
        have P := Lib.hid (rrnum_calls wr rb t (decA t j) (wid j) HR.out (decA_le t j) (by omega) (by omega) (by omega))
        unfold RRdPost at P
        have eE : rdL t (decA t j) (wid j) = decE t j := rfl
        have eN : rdN t (decA t j) (wid j) = decN t j := rfl
        have eA : rdA t (decA t j) (wid j) = decA t (j + 1) := rfl
        rw [eE, eN, eA] at P
        have hsh : decE t j = [] ∨ ∃ c, decE t j = [c] ∧ c ≠ 0 := rdL_shape _ _ _
        have HSH := Lib.hid hsh
        clear eE eN eA hsh
        generalize wid j = wj at q0 k0 k1 P
        go_wp2_with fail
        (with_reducible refine P.out.mono ?_)
        rintro r w5 ⟨vf, Ef, rfl, hRF, hxf, hR5, m5⟩
        obtain ⟨Af, capf, atf, rfl⟩ := hRF.shape
        obtain ⟨w6, hw6⟩ : ∃ w6, w6 = w5.alloc (.cells #[.slice Af (decE t j).length capf, .int .i64 atf] 112) := ⟨_, rfl⟩
        have m6 : Mod [] w5 w6 := by rw [hw6]; exact (Mod.refl _ _).alloc _
        have RF6 := Lib.hid (hRF.mod0 m6)
        have B6 : Arr w6 w5.heap.size 112 2 (fun i => if i = 0 then .slice Af (decE t j).length capf else .int .i64 atf) := by
          rw [hw6]
          exact Arr.new' w5 _ _ 2 _ rfl (fun i hi => by
            match i, hi with
            | 0, _ => rfl
            | 1, _ => rfl)
        have C6 := Lib.hid (rcode_calls w6 _ (decE t j) Ef RF6.out (by have : (decE t j).length ≤ 1 := rdL_len _ _ _; omega))
        have m56 := m5.trans m6.nil
        have M6 := Lib.hid (HM.out.trans m56)
        have MW6 := Lib.hid m56
        have AA6 := Lib.hid (AA.out.mod m56 (by simp; omega))
        have R6 := Lib.hid (hR5.mod0 m6)
        have HB6 := Lib.hid B6
        have HW6 := Lib.hid hw6
        have hz6 := m56.size
        have hz56 : w5.heap.size < w6.heap.size := B6.lt
        have HO6 := Lib.hid (own_mod HO.out m56 (fun q hq => by have := own_lt' HO.out q hq; simp; omega))
        have hz5 := m5.size
        obtain ⟨fb, hfb⟩ : ∃ fb, fb = w5.heap.size := ⟨_, rfl⟩
        rw [← hfb] at HB6 hz56
        have HFB := Lib.hid hfb
        have HXF := Lib.hid hxf
        clear hRF hxf hR5 m5 m6 B6 hw6 m56 hfb
        obtain ⟨ll, hll⟩ : ∃ ll, ll = (decE t j).length := ⟨_, rfl⟩
        have HLL := Lib.hid hll
        rw [← hll] at HB6 RF6 C6 HW6 ⊢
        clear hll
        rcases HSH.out with hl | ⟨c, hl, hc⟩
        · have hl0 : ll = 0 := by have := HLL.out; rw [hl] at this; exact this
          subst hl0
          rw [hl] at C6
          simp only [List.headD_nil] at C6
          have hx9 : decN t j = decN t j := rfl
          obtain ⟨xv, hxv⟩ : ∃ xv, xv = decN t j := ⟨_, rfl⟩
          have HXV := Lib.hid hxv
          have HNX := Lib.hid (HE.out.trans (show decFrom t (7 - j) j = decFrom t (7 - (j + 1)) (j + 1) by
            obtain ⟨n9, hn9⟩ : ∃ n9, 7 - j = n9 + 1 := ⟨6 - j, by omega⟩
            rw [hn9, decFrom_ok hl, show 7 - (j + 1) = n9 by omega]))
          rw [← hxv]
          clear hxv hx9 hl
          go_wp2_with fail
          rw [← HFB.out, ← HW6.out]
          refine C6.out.mono ?_
          rintro r w7 ⟨rfl, m7⟩
          obtain ⟨w8, hw8⟩ : ∃ w8, w8 = w7.alloc (.cells #[.int .i64 xv] 3) := ⟨_, rfl⟩
          have m8 : Mod [] w7 w8 := by rw [hw8]; exact (Mod.refl _ _).alloc _
          have cn : w8.cell? ⟨w7.heap.size, 0, none⟩ = some (.int .i64 xv) := by rw [hw8]; exact new_cell1 w7 _ _ _ rfl
          have ho8 := own_mod HO6.out (m7.trans m8) (by simp)
          have M8 := Lib.hid (M6.out.trans (m7.trans m8).nil)
          have R8 := Lib.hid (R6.out.mod0 (m7.trans m8))
          have hz8 := (m7.trans m8).size
          have HW8 := Lib.hid hw8
          have HO8 := Lib.hid ho8
          clear m7 m8 hw8
          go_wp2_with (
            at_builtin
            rw [← HW8.out]
            refine app1 w3.heap.size 133 3 (.int .i64 0) 1 8 Tryd.underlying133 int_info rfl (by omega) (by omega) rfl _ _ rfl u8 _ _ rfl ho8 w7.heap.size [.int .i64 xv] rfl rfl (news1 cn) (by simp [Value.oneCell']) (by omega) (by omega) ?_
            intro ga cap w9 ho9 m9 hg9 hb9
            have O9 := Lib.hid ho9
            have M9 := Lib.hid m9
            clear ho9 m9 ho8 cn)
          go_roundw
          case rel => exact ⟨j + 1, _, rfl, by omega, by go_num, by rw [← decNs_succ, ← ints_app, ← HXV.out]; exact O9.out, R8.out.mod M9.out (fun hx => by have := own_lt' HO8.out rb (by simpa using hx); omega), M8.out.fresh M9.out (fun x hx => .inr (by
            have := own_lt' HO8.out x (by simpa using hx)
            omega)), HNX.out⟩
          case measure => simp [intOf]; omega
        · have hl1 : ll = 1 := by have := HLL.out; rw [hl] at this; exact this
          subst hl1
          have hc0 : (c != 0) = true := by simpa using hc
          have hbad : decL s = [30, c] := by
            rw [E1.out, HE.out]
            obtain ⟨n9, hn9⟩ : ∃ n9, 7 - j = n9 + 1 := ⟨6 - j, by omega⟩
            rw [hn9, decFrom_bad (by rw [hl]; simp), hl]
          have hr : decR s = Msg.zero := E2.out (by rw [hbad]; simp)
          have HBAD := Lib.hid (And.intro hbad hr)
          rw [hl] at C6 RF6
          simp only [List.headD_cons] at C6
          obtain ⟨sv, atv, esv, hof, hgf⟩ := RF6.out
          cases esv
          obtain ⟨gf, capf', ef, _, hcf, hcm, hAf⟩ := own_arr hof (by simp)
          cases ef
          have hcapf : capf ≤ 9223372036854775807 := by unfold maxLen at hcm; omega
          have y0 : w6.cell? ⟨gf, 0, none⟩ = some (.int .i64 c) := hAf.cell 0 (by simp)
          have Y0 := Lib.hid y0
          have hgfl := HXF.out gf (hgf gf rfl)
          have AAlt := AA.out.lt
          have hfb2 := HFB.out
          have n1 : w.heap.size ≠ gf := by omega
          have n2 : w.heap.size ≠ fb := by omega
          have n3 : gf ≠ w.heap.size := by omega
          have n4 : fb ≠ w.heap.size := by omega
          clear hfb2
          generalize decN t j = xv
          clear hl hc hbad hr hof hgf hAf y0
          go_wp2_with fail
          rw [← HFB.out, ← HW6.out]
          refine C6.out.mono ?_
          rintro r w7 ⟨rfl, m7⟩
          have y1 := m7.cell' Y0.out (by simp)
          have s0 : w7.cell? ⟨fb, 0, none⟩ = some (.slice (some ⟨gf, 0, none⟩) 1 capf) := (HB6.out.mod m7 (by simp)).cell 0 (by omega)
          have A2 := AA6.out.mod m7 (by simp)
          have M7 := Lib.hid (HM3.out.fresh (M6.out.trans m7.nil) (fun x hx => .inr (by simp at hx; omega)))
          have hz7 := A2.lt
          have r0 := A2.cell 0 (by omega)
          have r1 := A2.cell 1 (by omega)
          have r2 := A2.cell 2 (by omega)
          have r3 := A2.cell 3 (by omega)
          have r4 := A2.cell 4 (by omega)
          have r5 := A2.cell 5 (by omega)
          have r6 := A2.cell 6 (by omega)
          have r7 := A2.cell 7 (by omega)
          have g0 := A2.free 0
          have g1 := A2.free 1
          have g2 := A2.free 2
          have g3 := A2.free 3
          have g4 := A2.free 4
          have g5 := A2.free 5
          have g6 := A2.free 6
          have g7 := A2.free 7
          simp only [zeroF, if_true, if_false, Nat.reduceEqDiff] at r0 r1 r2 r3 r4 r5 r6 r7

          have F : Hid (∀ w9', Mod [w.heap.size] w7 w9' → w9'.heap.size = w7.heap.size → RDecPost w s (.returned (.tuple #[.agg zeroA, .slice (some ⟨w7.heap.size, 0, none⟩) 2 2])) (w9'.alloc (.cells #[.int .i64 30, .int .i64 c] 22)).drew) := Lib.hid (fun w9' m9 hz9 => ⟨_, by rw [HBAD.out.2]; rfl, by rw [HBAD.out.1, ← hz9]; exact own_mod (own_two w9' 30 c) ((Mod.refl [] _).drew) (by simp), ((M7.out.fresh m9 (fun x hx => .inr (by simp at hx; omega))).alloc _).drew⟩)
          clear m7 A2
          go_wp2
          go_region
          go_wp2
          (try simp only [Exit.inBlock, Exit.then])
          refine bodyPost_ret (v := .tuple #[.agg #[.int .i64 0, .int .i64 0, .int .i64 0, .int .i64 0, .int .i64 0, .int .i64 0, .int .i64 0, .string ⟨#[]⟩], .slice (some ⟨w7.heap.size, 0, none⟩) 2 2]) ?_ rfl ?_
          · rw [results_cell_tmp rfl]
            go_simp
          · refine F.out _ ?_ (by simp)
            repeat (first | (with_reducible exact Mod.refl _ _) | (with_reducible refine Mod.setCell ?_ (.inl (by simp)) _))
      · have hj7 : j = 7 := by omega
        have i1 : ¬ (j : Int) < 7 := by omega
        have P := Lib.hid (rrtext_calls wr rb t (decA t j) HR.out (decA_le t j) (by omega))
        unfold RRdPost at P
        obtain ⟨xs, hxs⟩ : ∃ xs, xs = rtS t (decA t j) := ⟨_, rfl⟩
        have HXS := Lib.hid hxs
        rw [← hxs] at P
        have hsh := rtL_shape t (decA t j)
        have HSH := Lib.hid hsh
        have D7 := Lib.hid hj7
        have HTL : Hid (decL s = decTail t) := Lib.hid (by rw [E1.out, HE.out, hj7]; simp only [Nat.sub_self, decFrom])
        have hlen9 : (rtL t (decA t j)).length ≤ 1000 := rtL_len _ _
        clear hxs hsh hj7 HE
        go_wp2_with fail
        (with_reducible refine P.out.mono ?_)
        rintro r w5 ⟨vf, Ef, rfl, hRF, hxf, hR5, m5⟩
        obtain ⟨Af, capf, atf, rfl⟩ := hRF.shape
        obtain ⟨w6, hw6⟩ : ∃ w6, w6 = w5.alloc (.cells #[.slice Af (rtL t (decA t j)).length capf, .int .i64 atf] 112) := ⟨_, rfl⟩
        obtain ⟨w7, hw7⟩ : ∃ w7, w7 = w6.alloc (.cells #[.int .i64 30] 22) := ⟨_, rfl⟩
        have m6 : Mod [] w5 w6 := by rw [hw6]; exact (Mod.refl _ _).alloc _
        have m7 : Mod [] w6 w7 := by rw [hw7]; exact (Mod.refl _ _).alloc _
        have hz6 : w6.heap.size = w5.heap.size + 1 := by rw [hw6]; simp
        have B6 : Arr w6 w5.heap.size 112 2 (fun i => if i = 0 then .slice Af (rtL t (decA t j)).length capf else .int .i64 atf) := by
          rw [hw6]
          exact Arr.new' w5 _ _ 2 _ rfl (fun i hi => by
            match i, hi with
            | 0, _ => rfl
            | 1, _ => rfl)
        have BO : w7.ownsRow 0 22 1 (.slice (some ⟨w5.heap.size + 1, 0, none⟩) 1 1) 1 (ints [30]) := by
          rw [← hz6, hw7]
          exact own_one w6 30
        have RF7 := Lib.hid ((hRF.mod0 m6).mod0 m7)
        have C7 := Lib.hid (rcode_calls w7 _ (rtL t (decA t j)) Ef RF7.out hlen9)
        have m57 := (m5.trans m6.nil).trans m7.nil
        have AA7' := Lib.hid (AA.out.mod m57 (by simp; omega))
        have R7 := Lib.hid ((hR5.mod0 m6).mod0 m7)
        have HB7 := Lib.hid (B6.mod m7 (by simp))
        have M7 := Lib.hid (HM3.out.fresh (HM.out.trans m57) (fun x hx => .inr (by simp at hx; omega)))
        have HO7 := Lib.hid (own_mod HO.out m57 (fun q hq => by have := own_lt' HO.out q hq; simp; omega))
        have HBO := Lib.hid BO
        rw [hw6] at hw7
        have HW7 := Lib.hid hw7
        have HXF := Lib.hid hxf
        have hz5 := m5.size
        have hz57 := (m6.trans m7).size
        have hbl7 : w5.heap.size + 1 < w7.heap.size := (own_lt' BO _ rfl).2
        obtain ⟨fb, hfb⟩ : ∃ fb, fb = w5.heap.size := ⟨_, rfl⟩
        obtain ⟨bb, hbb⟩ : ∃ bb, bb = w5.heap.size + 1 := ⟨_, rfl⟩
        rw [← hfb] at HB7
        rw [← hbb] at HBO hbl7
        have hfb2 : wr.heap.size ≤ fb := by omega
        have hfb3 : fb + 1 = bb := by omega
        have HFB := Lib.hid hfb
        have HBB := Lib.hid hbb
        have AAlt := AA.out.lt
        clear hRF hxf hR5 m5 m6 m7 B6 BO hw6 hw7 m57 hz6 hfb hbb
        go_wp2_with fail
        rw [← HBB.out, ← HFB.out, ← HW7.out]
        refine C7.out.mono ?_
        rintro r w8 ⟨rfl, m8⟩
        have AA7 := Lib.hid (AA7'.out.mod m8 (by simp))
        have R8 := Lib.hid (R7.out.mod0 m8)
        have HB8 := Lib.hid (HB7.out.mod m8 (by simp))
        have M8 := Lib.hid (M7.out.trans m8)
        have HO8 := Lib.hid (own_mod HO7.out m8 (by simp))
        have BO8 := Lib.hid (own_mod HBO.out m8 (by simp))
        have RF8 := Lib.hid (RF7.out.mod0 m8)
        have hz8 := m8.size
        clear m8 AA7' R7 HB7 M7 HO7 HBO RF7
        rcases HSH.out with hl | ⟨c, l, hl, hc⟩
        rotate_left
        · have hc0 : (c != 0) = true := by simpa using hc
          have n2 : w.heap.size ≠ fb := by omega
          have n4 : fb ≠ w.heap.size := by omega
          rw [show (rtL t (decA t j)).headD 0 = c by rw [hl]; rfl]
          have hbad : decL s = 30 :: rtL t (decA t j) := by rw [HTL.out]; unfold decTail; rw [← D7.out, if_pos (by rw [hl]; simp)]
          have hr : decR s = Msg.zero := E2.out (by rw [hbad]; simp)
          have HBAD := Lib.hid (And.intro hbad hr)
          clear hbad hr
          obtain ⟨sv, atv, esv, hof, hgf⟩ := RF8.out
          cases esv
          obtain ⟨gf, capf', ef, _, hcf, hcm, hAf⟩ := own_arr hof (by rw [hl]; simp)
          cases ef
          have hgfl := HXF.out gf (hgf gf rfl)
          have hcapf : capf ≤ 9223372036854775807 := by unfold maxLen at hcm; omega
          have OF := Lib.hid hof
          have hlen1 : 0 < (rtL t (decA t j)).length := by rw [hl]; simp
          have hlen2 : (rtL t (decA t j)).length ≤ 1000 := hlen9
          obtain ⟨mm, hmm⟩ : ∃ mm, mm = (rtL t (decA t j)).length := ⟨_, rfl⟩
          have HMM := Lib.hid hmm
          have OF' : Hid (w8.ownsRow 0 22 1 (.slice (some ⟨gf, 0, none⟩) mm capf) mm (ints (rtL t (decA t j)))) := Lib.hid (by rw [hmm]; exact OF.out)
          have hfl : (ints (rtL t (decA t j))).length = mm * 1 := by rw [hmm]; simp [ints]
          have s0 : w8.cell? ⟨fb, 0, none⟩ = some (.slice (some ⟨gf, 0, none⟩) mm capf) := by rw [hmm]; exact HB8.out.cell 0 (by omega)
          have OCE := Lib.hid (own_cells OF'.out)
          have bo := BO8.out
          rw [← hmm] at hlen1 hlen2
          clear hmm hof hgf hAf hl
          go_wp2_with (
            at_builtin
            refine appM mm 0 71 22 (.int .i64 0) 1 8 hlen1 hlen2 Tryd.underlying71 errno_info rfl (by omega) (by omega) rfl _ _ rfl (.slice (some ⟨bb, 0, none⟩) 1 1) _ _ rfl bo gf capf (ints (rtL t (decA t j))) rfl hfl OCE.out (ints_one _) (by omega) (Nat.zero_le _) ?_
            intro ga cap w9 ho9 m9 hg9 hb9
            have O9 := Lib.hid ho9
            have M9 := Lib.hid m9
            have A2 := AA7.out.mod m9 (by simp [Value.ownBlock]; omega)
            have hz9 := A2.lt
            have hga : w.heap.size ≠ ga := by
              rcases hg9 with h | h
              · simp [Value.ownBlock] at h; omega
              · omega
            have r0 := A2.cell 0 (by omega)
            have r1 := A2.cell 1 (by omega)
            have r2 := A2.cell 2 (by omega)
            have r3 := A2.cell 3 (by omega)
            have r4 := A2.cell 4 (by omega)
            have r5 := A2.cell 5 (by omega)
            have r6 := A2.cell 6 (by omega)
            have r7 := A2.cell 7 (by omega)
            have g0 := A2.free 0
            have g1 := A2.free 1
            have g2 := A2.free 2
            have g3 := A2.free 3
            have g4 := A2.free 4
            have g5 := A2.free 5
            have g6 := A2.free 6
            have g7 := A2.free 7
            simp only [zeroF, if_true, if_false, Nat.reduceEqDiff] at r0 r1 r2 r3 r4 r5 r6 r7
            have F : Hid (∀ w9', Mod [w.heap.size] w9 w9' → RDecPost w s (.returned (.tuple #[.agg zeroA, .slice (some ⟨ga, 0, none⟩) (1 + mm) cap])) w9') := Lib.hid (fun w9' m9' => ⟨_, by rw [HBAD.out.2]; rfl, by
                rw [HBAD.out.1, List.length_cons, ← HMM.out, Nat.add_comm mm 1]
                have := own_mod O9.out m9' (by simp [Value.ownBlock]; omega)
                exact this, (M8.out.fresh M9.out (fun x hx => .inr (by simp [Value.ownBlock] at hx; omega))).fresh m9' (fun x hx => .inr (by simp at hx; omega))⟩)
            clear ho9 m9 A2 bo)
          (try simp only [Exit.inBlock, Exit.then])
          refine bodyPost_ret (v := .tuple #[.agg #[.int .i64 0, .int .i64 0, .int .i64 0, .int .i64 0, .int .i64 0, .int .i64 0, .int .i64 0, .string ⟨#[]⟩], .slice (some ⟨ga, 0, none⟩) (1 + mm) cap]) ?_ rfl ?_
          · rw [results_cell_tmp rfl]
            go_simp
          · refine F.out _ ?_
            repeat (first | (with_reducible exact Mod.refl _ _) | (with_reducible refine Mod.setCell ?_ (.inl (by simp)) _))

        · rw [hl] at HB8
          simp only [List.length_nil] at HB8
          have hT2 : decTail t = (if endL t (rtA t (decA t j)) ≠ [] then 30 :: endL t (rtA t (decA t j)) else if (decM t).chk ≠ 0 then [30, (decM t).chk] else []) := by
            unfold decTail
            rw [← D7.out, if_neg (by rw [hl]; simp)]
          have HT2 := Lib.hid hT2
          rw [hl]
          simp only [List.headD_nil]
          have PE := Lib.hid (rrend_calls w8 rb t _ R8.out (rtA_le (decA_le t j)) (by omega))
          obtain ⟨el, hel⟩ : ∃ el, el = endL t (rtA t (decA t j)) := ⟨_, rfl⟩
          unfold REndPost at PE
          have hsh2 := endL_shape t (rtA t (decA t j))
          have hlen8 : (endL t (rtA t (decA t j))).length ≤ 1000 := endL_len _ _
          rw [← hel] at PE HT2 hsh2 hlen8
          have HSH2 := Lib.hid hsh2
          have HEL := Lib.hid hel
          clear hT2 hsh2 hl hlen9 hel
          go_wp2_with fail
          (with_reducible refine PE.out.mono ?_)
          rintro r w9 ⟨vg, Eg, rfl, hRG, hxg, m9⟩
          obtain ⟨Ag, capg, atg, rfl⟩ := hRG.shape
          have HB9 := HB8.out.mod m9 (by simp)
          have k0 := HB9.cell 0 (by omega)
          have k1 := HB9.cell 1 (by omega)
          have l0 := HB9.free 0
          have l1 := HB9.free 1
          simp only [if_true, if_false, Nat.reduceEqDiff] at k0 k1
          obtain ⟨w10, hw10⟩ : ∃ w10, w10 = (w9.setCell ⟨fb, 0, none⟩ (.slice Ag el.length capg)).setCell ⟨fb, 1, none⟩ (.int .i64 atg) := ⟨_, rfl⟩
          have m10 : Mod [fb] w9 w10 := by rw [hw10]; exact ((Mod.refl _ _).setCell (.inl (by simp)) _).setCell (.inl (by simp)) _
          have hz10 : w10.heap.size = w9.heap.size := by rw [hw10]; simp
          have HB10 : Arr w10 fb 112 2 (fun i => if i = 0 then .slice Ag el.length capg else .int .i64 atg) := by
            rw [hw10]
            exact ((HB9.set 0 _).set 1 _).congr fun i hi => by
              match i, hi with
              | 0, _ => rfl
              | 1, _ => rfl
          have hxg' : ∀ x, x ∈ Eg → x ≠ fb := fun x hx => by have := hxg x hx; have := HB8.out.lt; omega
          have RG10 := Lib.hid (hRG.mod m10 (fun x hx => by simpa using hxg' x hx))
          have C10 := Lib.hid (rcode_calls w10 _ el Eg RG10.out hlen8)
          have AA10' := Lib.hid ((AA7.out.mod m9 (by simp)).mod m10 (by simp; omega))
          have M10 := Lib.hid ((M8.out.trans m9).fresh m10 (fun x hx => .inr (by simp at hx; omega)))
          have HO10 := Lib.hid (own_mod (own_mod HO8.out m9 (by simp)) m10 (fun q hq => by have := own_lt' HO.out q hq; simp; omega))
          have BO10 := Lib.hid (own_mod (own_mod BO8.out m9 (by simp)) m10 (fun q hq => by simp [Value.ownBlock] at hq; simp; omega))
          have HBB10 := Lib.hid HB10
          have HXG := Lib.hid hxg
          have HW10 := Lib.hid hw10
          have hz9 := m9.size
          clear hRG hxg m9 HB9 m10 HB10 hxg' hw10 AA7 M8 HO8 BO8 HB8 R8
          go_wp2_with fail
          rw [← HW10.out]
          refine C10.out.mono ?_
          rintro r w11 ⟨rfl, m11⟩
          have AA7 := Lib.hid (AA10'.out.mod m11 (by simp))
          have HB11 := Lib.hid (HBB10.out.mod m11 (by simp))
          have M11 := Lib.hid (M10.out.trans m11)
          have HO11 := Lib.hid (own_mod HO10.out m11 (by simp))
          have BO11 := Lib.hid (own_mod BO10.out m11 (by simp))
          have RG11 := Lib.hid (RG10.out.mod0 m11)
          have hz11 := m11.size
          clear m11 AA10' HBB10 M10 HO10 BO10 RG10 k0 k1 l0 l1
          rcases HSH2.out with hl | ⟨c, l, hl, hc⟩
          rotate_left
          · have hc0 : (c != 0) = true := by simpa using hc
            have n2 : w.heap.size ≠ fb := by omega
            have n4 : fb ≠ w.heap.size := by omega
            rw [show el.headD 0 = c by rw [hl]; rfl]
            have hbad : decL s = 30 :: el := by rw [HTL.out, HT2.out, if_pos (by rw [hl]; simp)]
            have hr : decR s = Msg.zero := E2.out (by rw [hbad]; simp)
            have HBAD := Lib.hid (And.intro hbad hr)
            clear hbad hr
            obtain ⟨sv, atv, esv, hof, hgf⟩ := RG11.out
            cases esv
            obtain ⟨gf, capg', ef, _, hcf, hcm, hAf⟩ := own_arr hof (by rw [hl]; simp)
            cases ef
            have hgfl := HXG.out gf (hgf gf rfl)
            have hcapg : capg ≤ 9223372036854775807 := by unfold maxLen at hcm; omega
            have OF := Lib.hid hof
            have hlen1 : 0 < (el).length := by rw [hl]; simp
            have hlen2 : (el).length ≤ 1000 := hlen8
            obtain ⟨mm, hmm⟩ : ∃ mm, mm = (el).length := ⟨_, rfl⟩
            have HMM := Lib.hid hmm
            have OF' : Hid (w11.ownsRow 0 22 1 (.slice (some ⟨gf, 0, none⟩) mm capg) mm (ints (el))) := Lib.hid (by rw [hmm]; exact OF.out)
            have hfl : (ints (el)).length = mm * 1 := by rw [hmm]; simp [ints]
            have s0 : w11.cell? ⟨fb, 0, none⟩ = some (.slice (some ⟨gf, 0, none⟩) mm capg) := by rw [hmm]; exact HB11.out.cell 0 (by omega)
            have OCE := Lib.hid (own_cells OF'.out)
            have bo := BO11.out
            rw [← hmm] at hlen1 hlen2
            clear hmm hof hgf hAf hl
            go_wp2_with (
              at_builtin
              refine appM mm 0 71 22 (.int .i64 0) 1 8 hlen1 hlen2 Tryd.underlying71 errno_info rfl (by omega) (by omega) rfl _ _ rfl (.slice (some ⟨bb, 0, none⟩) 1 1) _ _ rfl bo gf capg (ints (el)) rfl hfl OCE.out (ints_one _) (by omega) (Nat.zero_le _) ?_
              intro ga cap w9 ho9 m9 hg9 hb9
              have O9 := Lib.hid ho9
              have M9 := Lib.hid m9
              have A2 := AA7.out.mod m9 (by simp [Value.ownBlock]; omega)
              have hz9 := A2.lt
              have hga : w.heap.size ≠ ga := by
                rcases hg9 with h | h
                · simp [Value.ownBlock] at h; omega
                · omega
              have r0 := A2.cell 0 (by omega)
              have r1 := A2.cell 1 (by omega)
              have r2 := A2.cell 2 (by omega)
              have r3 := A2.cell 3 (by omega)
              have r4 := A2.cell 4 (by omega)
              have r5 := A2.cell 5 (by omega)
              have r6 := A2.cell 6 (by omega)
              have r7 := A2.cell 7 (by omega)
              have g0 := A2.free 0
              have g1 := A2.free 1
              have g2 := A2.free 2
              have g3 := A2.free 3
              have g4 := A2.free 4
              have g5 := A2.free 5
              have g6 := A2.free 6
              have g7 := A2.free 7
              simp only [zeroF, if_true, if_false, Nat.reduceEqDiff] at r0 r1 r2 r3 r4 r5 r6 r7
              have F : Hid (∀ w9', Mod [w.heap.size] w9 w9' → RDecPost w s (.returned (.tuple #[.agg zeroA, .slice (some ⟨ga, 0, none⟩) (1 + mm) cap])) w9') := Lib.hid (fun w9' m9' => ⟨_, by rw [HBAD.out.2]; rfl, by
                  rw [HBAD.out.1, List.length_cons, ← HMM.out, Nat.add_comm mm 1]
                  have := own_mod O9.out m9' (by simp [Value.ownBlock]; omega)
                  exact this, (M11.out.fresh M9.out (fun x hx => .inr (by simp [Value.ownBlock] at hx; omega))).fresh m9' (fun x hx => .inr (by simp at hx; omega))⟩)
              clear ho9 m9 A2 bo)
            (try simp only [Exit.inBlock, Exit.then])
            refine bodyPost_ret (v := .tuple #[.agg #[.int .i64 0, .int .i64 0, .int .i64 0, .int .i64 0, .int .i64 0, .int .i64 0, .int .i64 0, .string ⟨#[]⟩], .slice (some ⟨ga, 0, none⟩) (1 + mm) cap]) ?_ rfl ?_
            · rw [results_cell_tmp rfl]
              go_simp
            · refine F.out _ ?_
              repeat (first | (with_reducible exact Mod.refl _ _) | (with_reducible refine Mod.setCell ?_ (.inl (by simp)) _))

          · rw [hl] at HT2 ⊢
            simp only [List.headD_nil, ne_eq, not_true_eq_false, if_false] at HT2 ⊢
            obtain ⟨gn, capn, en, hgn, hcn, hcm, An⟩ := own_arr HO11.out (by omega)
            have hcapn : capn ≤ 9223372036854775807 := by unfold maxLen at hcm; omega
            have hn7 : j ≤ capn := hcn
            have hn7' : (j : Int) ≤ 7 ∧ (7 : Int) ≤ j := by have := D7.out; omega
            have CN := Lib.hid (show ∀ i, i < 7 → w11.cell? ⟨gn, i, none⟩ = some (.int .i64 (decN t i)) from fun i hi => by
              have := An.cell i (by omega)
              rw [← Nat.mul_one i, decNs_get t j i (by omega), Nat.mul_one] at this
              exact this)
            have e0 := CN.out 0 (by omega)
            have e1 := CN.out 1 (by omega)
            have e2 := CN.out 2 (by omega)
            have e3 := CN.out 3 (by omega)
            have e4 := CN.out 4 (by omega)
            have e5 := CN.out 5 (by omega)
            have e6 := CN.out 6 (by omega)
            have hdM : decM t = ⟨decN t, xs⟩ := by unfold decM; rw [HXS.out, D7.out]
            have HDM := Lib.hid hdM
            have l0 : (0 : Int) < (j : Int) := by omega
            have l1 : (1 : Int) < (j : Int) := by omega
            have l2 : (2 : Int) < (j : Int) := by omega
            have l3 : (3 : Int) < (j : Int) := by omega
            have l4 : (4 : Int) < (j : Int) := by omega
            have l5 : (5 : Int) < (j : Int) := by omega
            have l6 : (6 : Int) < (j : Int) := by omega
            have p0 : 0 < j := by omega
            have p1 : 1 < j := by omega
            have p2 : 2 < j := by omega
            have p3 : 3 < j := by omega
            have p4 : 4 < j := by omega
            have p5 : 5 < j := by omega
            have p6 : 6 < j := by omega
            generalize hx9 : decN t = x at *
            subst en
            have HN7 := Lib.hid hn7'
            have hgl := An.lt
            have KS := Lib.hid (show ∀ w', Mod [] w11 w' → w'.cell? ⟨gn, 0, none⟩ = some (.int .i64 (x 0)) ∧ w'.cell? ⟨gn, 1, none⟩ = some (.int .i64 (x 1)) ∧ w'.cell? ⟨gn, 2, none⟩ = some (.int .i64 (x 2)) ∧ w'.cell? ⟨gn, 3, none⟩ = some (.int .i64 (x 3)) ∧ w'.cell? ⟨gn, 4, none⟩ = some (.int .i64 (x 4)) ∧ w'.cell? ⟨gn, 5, none⟩ = some (.int .i64 (x 5)) ∧ w'.cell? ⟨gn, 6, none⟩ = some (.int .i64 (x 6)) from fun w' m => ⟨m.cell' e0 (by simp), m.cell' e1 (by simp), m.cell' e2 (by simp), m.cell' e3 (by simp), m.cell' e4 (by simp), m.cell' e5 (by simp), m.cell' e6 (by simp)⟩)
            have hbg : gn < w11.drew.heap.size := hgl
            clear An hcm hl hdM hn7' e0 e1 e2 e3 e4 e5 e6
            go_wp2
            go_region_held3 (fun w' => w'.cell? ⟨gn, 0, none⟩ = some (.int .i64 (x 0)) ∧ w'.cell? ⟨gn, 1, none⟩ = some (.int .i64 (x 1)) ∧ w'.cell? ⟨gn, 2, none⟩ = some (.int .i64 (x 2)) ∧ w'.cell? ⟨gn, 3, none⟩ = some (.int .i64 (x 3)) ∧ w'.cell? ⟨gn, 4, none⟩ = some (.int .i64 (x 4)) ∧ w'.cell? ⟨gn, 5, none⟩ = some (.int .i64 (x 5)) ∧ w'.cell? ⟨gn, 6, none⟩ = some (.int .i64 (x 6)))
              ((refine KS.out _ ?_; with_reducible first
                | exact Mod.refl _ _
                | exact (Mod.refl _ _).drew
                | exact (Mod.refl _ _).alloc _
                | exact ((Mod.refl _ _).alloc _).drew))
              (fail)
            obtain ⟨w12, hw12⟩ : ∃ w12, w12 = (w11.alloc (.cells #[.int .i64 (x 0), .int .i64 (x 1), .int .i64 (x 2), .int .i64 (x 3), .int .i64 (x 4), .int .i64 (x 5), .int .i64 (x 6), .string xs] 62)).drew := ⟨_, rfl⟩
            have m12 : Mod [] w11 w12 := by rw [hw12]; exact ((Mod.refl _ _).alloc _).drew
            have B12 : Arr w12 w11.heap.size 62 8 (fun i => if i = 7 then .string xs else .int .i64 (x i)) := by
              rw [hw12]
              exact (Arr.new' w11 _ _ 8 _ rfl (fun i hi => by
                match i, hi with
                | 0, _ | 1, _ | 2, _ | 3, _ | 4, _ | 5, _ | 6, _ | 7, _ => rfl)).mod ((Mod.refl [] _).drew) (by simp)
            have C12 := Lib.hid (rcheck_calls w12 ⟨x, xs⟩)
            unfold Msg.arr at C12
            simp only at C12
            rw [HDM.out] at HT2
            obtain ⟨c, hc⟩ : ∃ c, c = Msg.chk ⟨x, xs⟩ := ⟨_, rfl⟩
            rw [← hc] at C12 HT2
            have BM := Lib.hid B12
            have AA12 := Lib.hid (AA7.out.mod m12 (by simp))
            have M12 := Lib.hid (M11.out.trans m12)
            have BO12 := Lib.hid (own_mod BO11.out m12 (by simp))
            have c0 := B12.cell 0 (by omega)
            have c1 := B12.cell 1 (by omega)
            have c2 := B12.cell 2 (by omega)
            have c3 := B12.cell 3 (by omega)
            have c4 := B12.cell 4 (by omega)
            have c5 := B12.cell 5 (by omega)
            have c6 := B12.cell 6 (by omega)
            have c7 := B12.cell 7 (by omega)
            simp only [if_true, if_false, Nat.reduceEqDiff] at c0 c1 c2 c3 c4 c5 c6 c7
            have hz12 := m12.size
            have hml : w11.heap.size < w12.heap.size := B12.lt
            obtain ⟨mb, hmb⟩ : ∃ mb, mb = w11.heap.size := ⟨_, rfl⟩
            have hAl := AA7.out.lt
            rw [← hmb] at c0 c1 c2 c3 c4 c5 c6 c7 BM hml hAl hz12 ⊢
            rw [← hw12]
            have hgl9 : bb < mb := by have := (own_lt' BO11.out _ rfl).2; rw [← hmb] at this; exact this
            clear m12 B12 hw12 hmb hc AA7 M11 BO11 KS CN
            go_wp2_with fail
            refine C12.out.mono ?_
            rintro r w13 ⟨rfl, m13⟩
            have B13 := Lib.hid (BM.out.mod m13 (by simp))
            have AA13 := Lib.hid (AA12.out.mod m13 (by simp))
            have M13 := Lib.hid (M12.out.trans m13)
            have BO13 := Lib.hid (own_mod BO12.out m13 (by simp))
            have hz13 := m13.size
            clear m13 c0 c1 c2 c3 c4 c5 c6 c7 BM AA12 M12 BO12
            by_cases hc : c = 0
            · have hbad : decL s = [] := by rw [HTL.out, HT2.out, if_neg (by simp [hc])]
              have hr : decR s = ⟨x, xs⟩ := by rw [E3.out hbad, HDM.out]
              have HOK := Lib.hid (And.intro hbad hr)
              have c0 := B13.out.cell 0 (by omega)
              have c1 := B13.out.cell 1 (by omega)
              have c2 := B13.out.cell 2 (by omega)
              have c3 := B13.out.cell 3 (by omega)
              have c4 := B13.out.cell 4 (by omega)
              have c5 := B13.out.cell 5 (by omega)
              have c6 := B13.out.cell 6 (by omega)
              have c7 := B13.out.cell 7 (by omega)
              simp only [if_true, if_false, Nat.reduceEqDiff] at c0 c1 c2 c3 c4 c5 c6 c7
              have A2 := AA13.out
              have r0 := A2.cell 0 (by omega)
              have r1 := A2.cell 1 (by omega)
              have r2 := A2.cell 2 (by omega)
              have r3 := A2.cell 3 (by omega)
              have r4 := A2.cell 4 (by omega)
              have r5 := A2.cell 5 (by omega)
              have r6 := A2.cell 6 (by omega)
              have r7 := A2.cell 7 (by omega)
              have g0 := A2.free 0
              have g1 := A2.free 1
              have g2 := A2.free 2
              have g3 := A2.free 3
              have g4 := A2.free 4
              have g5 := A2.free 5
              have g6 := A2.free 6
              have g7 := A2.free 7
              simp only [zeroF, if_true, if_false, Nat.reduceEqDiff] at r0 r1 r2 r3 r4 r5 r6 r7
              have F : Hid (∀ w9', Mod [w.heap.size] w13 w9' → RDecPost w s (.returned (.tuple #[.agg #[.int .i64 (x 0), .int .i64 (x 1), .int .i64 (x 2), .int .i64 (x 3), .int .i64 (x 4), .int .i64 (x 5), .int .i64 (x 6), .string xs], .slice none 0 0])) w9') := Lib.hid (fun w9' m9' => ⟨_, by rw [HOK.out.2]; rfl, by rw [HOK.out.1]; exact own_nil _ _ _ _, M13.out.fresh m9' (fun x hx => .inr (by simp at hx; omega))⟩)
              subst hc
              clear A2 hbad hr
              go_wp2
              (try simp only [Exit.inBlock, Exit.then])
              refine bodyPost_ret (v := .tuple #[.agg #[.int .i64 (x 0), .int .i64 (x 1), .int .i64 (x 2), .int .i64 (x 3), .int .i64 (x 4), .int .i64 (x 5), .int .i64 (x 6), .string xs], .slice none 0 0]) ?_ rfl ?_
              · rw [results_cell_tmp rfl]
                go_simp
              · refine F.out _ ?_
                repeat (first | (with_reducible exact Mod.refl _ _) | (with_reducible refine Mod.setCell ?_ (.inl (by simp)) _))
            · have hbad : decL s = [30, c] := by rw [HTL.out, HT2.out, if_pos (by simpa using hc)]
              have hr : decR s = Msg.zero := E2.out (by rw [hbad]; simp)
              have HBAD := Lib.hid (And.intro hbad hr)
              have hc0 : (c != 0) = true := by simpa using hc
              obtain ⟨w14, hw14⟩ : ∃ w14, w14 = w13.alloc (.cells #[.int .i64 c] 22) := ⟨_, rfl⟩
              have m14 : Mod [] w13 w14 := by rw [hw14]; exact (Mod.refl _ _).alloc _
              have bo := own_mod BO13.out m14 (by simp)
              have hon : w14.ownsRow 0 22 1 (.slice (some ⟨w13.heap.size, 0, none⟩) 1 1) 1 (ints [c]) := by rw [hw14]; exact own_one w13 c
              have OCE := Lib.hid (own_cells hon)
              have AA14 := Lib.hid (AA13.out.mod m14 (by simp))
              have M14 := Lib.hid (M13.out.trans m14)
              have HW14 := Lib.hid hw14
              have hz14 := m14.size
              have n2 : w.heap.size ≠ mb := by omega
              clear hbad hr hc m14 hw14 hon
              go_wp2_with (
                at_builtin
                rw [← HW14.out]
                refine appM 1 0 71 22 (.int .i64 0) 1 8 (by omega) (by omega) Tryd.underlying71 errno_info rfl (by omega) (by omega) rfl _ _ rfl (.slice (some ⟨bb, 0, none⟩) 1 1) _ _ rfl bo w13.heap.size 1 (ints [c]) rfl rfl OCE.out (ints_one _) (by omega) (Nat.zero_le _) ?_
                intro ga cap w9 ho9 m9 hg9 hb9
                have O9 := Lib.hid ho9
                have M9 := Lib.hid m9
                have A2 := AA14.out.mod m9 (by simp [Value.ownBlock]; omega)
                have hz9 := A2.lt
                have hga : w.heap.size ≠ ga := by
                  rcases hg9 with h | h
                  · simp [Value.ownBlock] at h; omega
                  · omega
                have r0 := A2.cell 0 (by omega)
                have r1 := A2.cell 1 (by omega)
                have r2 := A2.cell 2 (by omega)
                have r3 := A2.cell 3 (by omega)
                have r4 := A2.cell 4 (by omega)
                have r5 := A2.cell 5 (by omega)
                have r6 := A2.cell 6 (by omega)
                have r7 := A2.cell 7 (by omega)
                have g0 := A2.free 0
                have g1 := A2.free 1
                have g2 := A2.free 2
                have g3 := A2.free 3
                have g4 := A2.free 4
                have g5 := A2.free 5
                have g6 := A2.free 6
                have g7 := A2.free 7
                simp only [zeroF, if_true, if_false, Nat.reduceEqDiff] at r0 r1 r2 r3 r4 r5 r6 r7
                have F : Hid (∀ w9', Mod [w.heap.size] w9 w9' → RDecPost w s (.returned (.tuple #[.agg zeroA, .slice (some ⟨ga, 0, none⟩) 2 cap])) w9') := Lib.hid (fun w9' m9' => ⟨_, by rw [HBAD.out.2]; rfl, by
                    rw [HBAD.out.1]
                    have := own_mod O9.out m9' (by simp [Value.ownBlock]; omega)
                    exact this, (M14.out.fresh M9.out (fun x hx => .inr (by simp [Value.ownBlock] at hx; omega))).fresh m9' (fun x hx => .inr (by simp at hx; omega))⟩)
                clear ho9 m9 A2 bo)
              (try simp only [Exit.inBlock, Exit.then])
              refine bodyPost_ret (v := .tuple #[.agg #[.int .i64 0, .int .i64 0, .int .i64 0, .int .i64 0, .int .i64 0, .int .i64 0, .int .i64 0, .string ⟨#[]⟩], .slice (some ⟨ga, 0, none⟩) 2 cap]) ?_ rfl ?_
              · rw [results_cell_tmp rfl]
                go_simp
              · refine F.out _ ?_
                repeat (first | (with_reducible exact Mod.refl _ _) | (with_reducible refine Mod.setCell ?_ (.inl (by simp)) _))
end Go.Proofs.YtphcoenooinmfaaDoor

