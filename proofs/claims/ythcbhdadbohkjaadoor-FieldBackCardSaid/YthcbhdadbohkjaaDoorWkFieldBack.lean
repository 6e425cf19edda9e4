/- The walk of the law FieldBack: what was written is read back. Premise: the library's variable of the type error is as laid. (Written by wip/tools/genBack.py.) -/
import Derived.Test.YthcbhdadbohkjaaDoorBack
namespace Go.Proofs.YthcbhdadbohkjaaDoor
open Go.RowKit
set_option linter.unusedVariables false
set_option linter.unusedSimpArgs false
attribute [local go_sem ↓] Go.wp_at_zero Go.wp_at_succ

theorem step_info : (Tryd.prog.info? 49).map (fun i => (i.zero, i.size, i.bytes)) = some (some (.agg #[.int .i64 0, .int .i64 0, .int .i64 0, .string ⟨#[]⟩]), 4, 40) := by kernel_rfl
theorem numB_no {bs : List UInt8} {n k : Int} (h : ¬ fitB n k = true) : numB bs n k = bs := by unfold numB; rw [if_neg h]
theorem textB_no {bs : List UInt8} {s : ByteArray} (h : ¬ s.size ≤ 1024) : textB bs s = bs := by unfold textB; rw [if_neg h]
theorem own_news {v : Value} {ga N n cap : Nat} (h : v.ownBlock = some ga ∨ ga = N) : ∀ x, x ∈ (Value.slice (some ⟨ga, 0, none⟩) n cap).ownBlock.toList → x ∈ v.ownBlock.toList ∨ N ≤ x := by
  intro x hx
  have e : x = ga := by simpa [Value.ownBlock] using hx
  subst e
  rcases h with h | h
  · exact .inl (by simp [h])
  · exact .inr (by omega)
/-- What holds behind the steps that were written. -/
def LoopA (W : World) (n : Nat) (kk nn cc : Nat → Int) (ss : Nat → ByteArray) (b b2 : Nat) (wr : World) (v : Value) (k : Nat) : Prop :=
  ∃ F F2 G, Bk W wr b (flatB kk nn cc ss G) F b2 (flatB kk nn cc ss G) F2 v G.length (rowC kk nn cc ss G) ∧ (flatB kk nn cc ss G).length ≤ 10 * k + wgt ss k ∧ G.length ≤ k ∧ ∀ i, i ∈ G → GoodSt kk nn cc ss n i
/-- The good steps of a round. -/
structure LoopG (n : Nat) (kk nn cc : Nat → Int) (ss : Nat → ByteArray) (k : Nat) (G : List Nat) : Prop where
  lt : k < n
  len : (flatB kk nn cc ss G).length ≤ 10 * k + wgt ss k
  gl : G.length ≤ k
  ok : ∀ i, i ∈ G → GoodSt kk nn cc ss n i
  wg : wgt ss (k + 1) = wgt ss k + min (ss k).size 1048576
theorem LoopA.same {W : World} {n : Nat} {kk nn cc : Nat → Int} {ss : Nat → ByteArray} {b b2 : Nat} {wr : World} {v : Value} {k : Nat} {G : List Nat} {F F2 : List Nat} (h : LoopG n kk nn cc ss k G) (hB : Bk W wr b (flatB kk nn cc ss G) F b2 (flatB kk nn cc ss G) F2 v G.length (rowC kk nn cc ss G)) : LoopA W n kk nn cc ss b b2 wr v (k + 1) :=
  ⟨F, F2, G, hB, by have := h.len; have := h.wg; omega, by have := h.gl; omega, h.ok⟩
/-- What the k-th step's bytes are, where it was written. -/
def WrOk (kk nn cc : Nat → Int) (ss : Nat → ByteArray) (k : Nat) (kk1 nk ck : Int) (sk : ByteArray) (bs bs' : List UInt8) : Prop :=
  ∀ n, k < n → GoodSt kk nn cc ss n k ∧ bs' = bs ++ oneB (kk k) (nn k) (cc k) (ss k) ∧ (oneB (kk k) (nn k) (cc k) (ss k)).length ≤ 10 + min (ss k).size 1048576
theorem LoopA.num_ok {kk nn cc : Nat → Int} {ss : Nat → ByteArray} {k : Nat} {kk1 nk ck : Int} {sk : ByteArray} {bs : List UInt8} (h : kk1 = kk k ∧ nk = nn k ∧ ck = cc k ∧ sk = ss k ∧ kk k = 0) (hf : fitB nk ck = true) : WrOk kk nn cc ss k kk1 nk ck sk bs (numB bs nk ck) := by
  obtain ⟨h1, h2, h3, h4, h5⟩ := h
  intro n hn
  rw [h2, h3] at hf
  refine ⟨⟨hn, .inl ⟨h5, hf⟩⟩, ?_, ?_⟩
  · unfold numB oneB
    rw [h2, h3, if_pos hf, if_pos h5]
  · unfold oneB
    rw [if_pos h5, leB_length]
    simp only [fitB, wideB, Bool.and_eq_true, decide_eq_true_eq] at hf
    omega
theorem LoopA.text_ok {kk nn cc : Nat → Int} {ss : Nat → ByteArray} {k : Nat} {kk1 nk ck : Int} {sk : ByteArray} {bs : List UInt8} (h : kk1 = kk k ∧ nk = nn k ∧ ck = cc k ∧ sk = ss k ∧ kk k = 1) (hf : sk.size ≤ 1024) : WrOk kk nn cc ss k kk1 nk ck sk bs (textB bs sk) := by
  obtain ⟨h1, h2, h3, h4, h5⟩ := h
  intro n hn
  rw [h4] at hf
  refine ⟨⟨hn, .inr ⟨h5, hf⟩⟩, ?_, ?_⟩
  · unfold textB oneB
    rw [h4, if_pos hf, if_neg (by rw [h5]; decide), List.append_assoc]
  · unfold oneB
    rw [if_neg (by rw [h5]; decide), List.length_append, leB_length]
    have : (ss k).data.toList.length = (ss k).size := rfl
    omega
theorem LoopA.more {W : World} {n : Nat} {kk nn cc : Nat → Int} {ss : Nat → ByteArray} {b b2 : Nat} {wr : World} {v : Value} {k : Nat} {G : List Nat} {F F2 : List Nat} {kk1 nk ck : Int} {sk : ByteArray} {bs' : List UInt8} {m : Nat} (h : LoopG n kk nn cc ss k G ∧ (kk1 = kk k ∧ nk = nn k ∧ ck = cc k ∧ sk = ss k))
    (hB : Bk W wr b bs' F b2 bs' F2 v (G.length + 1) (rowC kk nn cc ss G ++ stC kk1 nk ck sk)) (hw : WrOk kk nn cc ss k kk1 nk ck sk (flatB kk nn cc ss G) bs') : LoopA W n kk nn cc ss b b2 wr v (k + 1) := by
  obtain ⟨h, e1, e2, e3, e4⟩ := h
  obtain ⟨g1, g2, g3⟩ := hw n h.lt
  have ef : bs' = flatB kk nn cc ss (G ++ [k]) := by rw [flatB_app, g2]; simp [flatB]
  refine ⟨F, F2, G ++ [k], ?_, ?_, ?_, ?_⟩
  · rw [e1, e2, e3, e4, ← rowC_app] at hB
    rw [← ef, List.length_append, List.length_singleton]
    exact hB
  · rw [← ef, g2, List.length_append]
    have := h.len
    have := h.wg
    omega
  · rw [List.length_append, List.length_singleton]
    have := h.gl
    omega
  · intro i hi
    rcases List.mem_append.1 hi with h9 | h9
    · exact h.ok i h9
    · obtain rfl : i = k := by simpa using h9
      exact g1
set_option maxRecDepth 100000 in
set_option maxHeartbeats 4000000 in
theorem fieldBack_walk (W : World) (t0 : ErrT W) (v0 : Value) (c0 : CellOk W (.sl [.int .i64, .int .i64, .int .i64, .str]) v0) :
    Calls Tryd.prog 14 #[v0] W fun e w' => e = .returned (.bool true) ∧ Below W.heap.size W w' := by
  obtain ⟨A, n, cap, kk, nn, cc, ss, rfl, hn, hcap, hS⟩ := steps_inv c0
  have HV := Lib.hid (hS.heavy cap hcap hn)
  have HS := Lib.hid hS
  have N0 := Lib.hid (Nw.refl t0)
  clear c0 hS t0
  go_enter Tryd.func14, Tryd.ntmps14
  go_wp2_with fail
  refine HV.out.mono ?_
  rintro e w1 ⟨⟨bh, rfl, hbh⟩, rfl⟩
  have HB := Lib.hid hbh
  clear hbh
  cases bh with
  | true =>
    go_wp2
    go_ret
    exact ⟨rfl, N0.out.bel⟩
  | false =>
  have hw8 : n + wgt ss n ≤ 8192 := HB.out rfl
  go_wp2_with fail
  refine (newWriterN N0.out).mono ?_
  rintro e w2 ⟨b, rfl, -, hW2, m2, hN2⟩
  obtain ⟨w3, hw3⟩ : ∃ w3, w3 = w2.alloc (.cells #[.slice none 0 0] 47) := ⟨_, rfl⟩
  obtain ⟨w4, hw4⟩ : ∃ w4, w4 = w3.alloc (.cells #[] 49) := ⟨_, rfl⟩
  have m3 : Mod [] w2 w3 := by rw [hw3]; exact (Mod.refl _ _).alloc _
  have m4 : Mod [] w3 w4 := by rw [hw4]; exact (Mod.refl _ _).alloc _
  have hz3 : w3.heap.size = w2.heap.size + 1 := by rw [hw3]; simp
  have hR3 : Wtr w3 47 w2.heap.size [] [w2.heap.size] := by rw [hw3]; exact Wtr.new w2 _
  have hbl := hW2.h.lt b (by simp)
  have HBK : Bk W w4 b [] [b] w2.heap.size [] [w2.heap.size] (.slice (some ⟨w2.heap.size + 1, 0, none⟩) 0 0) 0 [] := by
    refine ⟨⟨hN2.step0 (m3.trans m4), hW2.mod0 (m3.trans m4), ⟨hR3.mod0 m4, fun x hx => by simp at hx; have := hN2.le; omega⟩, fun x hx => by simp at hx; simp; omega⟩, ?_, fun x hx => by simp at hx; simp [Value.ownBlock]; omega, fun x hx => by simp at hx; simp [Value.ownBlock]; omega⟩
    rw [← hz3, hw4]
    exact own_empty w3 _ _ _ (by have := hN2.le; omega)
  obtain ⟨b2, hb2⟩ : ∃ b2, b2 = w2.heap.size := ⟨_, rfl⟩
  rw [← hb2] at HBK
  have HBK' := Lib.hid HBK
  rw [hw3] at hw4
  have HZ := Lib.hid hw4
  have HB2 := Lib.hid hb2
  clear hW2 m2 hN2 m3 hR3 HBK hw3 hb2 hw4 m4 hz3 hbl
  go_wp2
  rw [← HZ.out, ← HB2.out]
  go_loopw [5, 6] (fun v i wr => ∃ (k : Nat) (v' : Value), v = v' ∧ k ≤ n ∧ i = .int .i64 k ∧ LoopA W n kk nn cc ss b b2 wr v' k) (fun _ i _ => n - (intOf i).toNat)
  case atStart => exact ⟨0, _, rfl, Nat.zero_le _, rfl, _, _, [], HBK'.out, by simp [flatB], by simp, fun i hi => by cases hi⟩
  case round =>
    obtain ⟨k, v', rfl, hk, rfl, F, F2, G, hBk, hl, hgl, hok⟩ := hrel
    clear HBK' HZ HB2 HV N0 HB
    have hwk := wgt_mono ss hk
    have hl2 : (flatB kk nn cc ss G).length ≤ 100000 := by omega
    by_cases hlt : k < n
    · have i0 : (0 : Int) ≤ (k : Int) := by omega
      have i1 : (k : Int) < (n : Int) := by omega
      obtain ⟨bb, off, rfl, hcell⟩ := HS.out.ex (by omega)
      obtain ⟨x0, x1, x2, x3⟩ := hcell k hlt
      obtain ⟨n0, n1⟩ := HS.out.bn k hlt
      obtain ⟨k0, k1⟩ := HS.out.bc k hlt
      have hsz := wgt_le hw8 hlt
      have hb6 : (ss k).size ≤ 140737488351232 := by omega
      have y0 := hBk.pw.n.mod.cell' x0 (by simp)
      have y1 := hBk.pw.n.mod.cell' x1 (by simp)
      have y2 := hBk.pw.n.mod.cell' x2 (by simp)
      have y3 := hBk.pw.n.mod.cell' x3 (by simp)
      have hLG : LoopG n kk nn cc ss k G := ⟨hlt, hl, hgl, hok, rfl⟩
      obtain ⟨w1, hw1⟩ : ∃ w1, w1 = wr.alloc (.cells #[.int .i64 (kk k), .int .i64 (nn k), .int .i64 (cc k), .string (ss k)] 49) := ⟨_, rfl⟩
      have hB1 : Bx W w1 b (flatB kk nn cc ss G) F b2 (flatB kk nn cc ss G) F2 u5 G.length (rowC kk nn cc ss G) wr.heap.size (stF (kk k) (nn k) (cc k) (ss k)) := by
        rw [hw1]
        exact hBk.box _ (Arr.new' wr _ _ 4 _ rfl (fun i hi => by
          match i, hi with
          | 0, _ | 1, _ | 2, _ | 3, _ => rfl))
      obtain ⟨kk1, hkk1⟩ : ∃ kk1, kk1 = kk k := ⟨_, rfl⟩
      obtain ⟨nk, hnk⟩ : ∃ nk, nk = nn k := ⟨_, rfl⟩
      obtain ⟨ck, hck⟩ : ∃ ck, ck = cc k := ⟨_, rfl⟩
      obtain ⟨sk, hsk⟩ : ∃ sk, sk = ss k := ⟨_, rfl⟩
      obtain ⟨cb, hcb⟩ : ∃ cb, cb = wr.heap.size := ⟨_, rfl⟩
      rw [← hkk1, ← hnk, ← hck, ← hsk, ← hcb] at hB1
      rw [← hkk1] at y0
      rw [← hnk] at y1 n0 n1
      rw [← hck] at y2 k0 k1
      rw [← hsk] at y3 hb6
      rw [← hkk1, ← hnk, ← hck, ← hsk] at hw1
      have HG9 := Lib.hid (And.intro hLG (And.intro hkk1 (And.intro hnk (And.intro hck hsk))))
      have HB1 := Lib.hid hB1
      have HW1 := Lib.hid hw1
      have HCB := Lib.hid hcb
      clear hcell x0 x1 x2 x3 hBk hl hgl hok hLG hB1 hw1 hnk hck hsk hcb
      by_cases hk0 : kk1 = 0
      · have HKK : Hid (kk1 = kk k ∧ nk = nn k ∧ ck = cc k ∧ sk = ss k ∧ kk k = 0) := Lib.hid ⟨HG9.out.2.1, HG9.out.2.2.1, HG9.out.2.2.2.1, HG9.out.2.2.2.2, by rw [← hkk1]; exact hk0⟩
        have HG := HG9
        have t1 : (kk1 == 0) = true := by simpa using hk0
        have t2 : (kk1 == 1) = false := by simp [hk0]
        clear hk0 hkk1 HG9
        have CW := Lib.hid (rwnumX HB1.out nk ck n0 n1 k0 k1 (by omega))
        unfold XR at CW
        have hl9 : (numL nk ck).length ≤ 1000 := numL_len _ _
        obtain ⟨lv, hlv⟩ : ∃ lv, lv = numL nk ck := ⟨_, rfl⟩
        have HLV := Lib.hid hlv
        rw [← hlv] at CW hl9
        clear hlv
        go_wp2_with fail
        rw [← HW1.out, ← HCB.out]
        (with_reducible refine CW.out.mono ?_)
        rintro r w2 ⟨ru, E2, F2', rfl, hRF, hB2⟩
        have RFH := Lib.hid hRF
        have HB2 := Lib.hid hB2
        have C2 := Lib.hid (rcodeX HB2.out RFH.out hl9)
        obtain ⟨hd, hhd⟩ : ∃ hd, hd = lv.headD 0 := ⟨_, rfl⟩
        have HHD := Lib.hid hhd
        rw [← hhd] at C2
        clear hRF hB2 hhd CW
        go_wp2_with fail
        refine C2.out.mono ?_
        rintro r w3 ⟨rfl, hB3⟩
        have HB3 := Lib.hid hB3
        have CP := Lib.hid (wnumX HB3.out nk ck n0 n1 k0 k1 (by omega))
        unfold XL at CP
        rw [← HLV.out] at CP
        have q0 := hB3.bx.cell 0 (by omega)
        have q1 := hB3.bx.cell 1 (by omega)
        have q2 := hB3.bx.cell 2 (by omega)
        have q3 := hB3.bx.cell 3 (by omega)
        unfold stF at q0 q1 q2 q3
        simp only [if_true, if_false, Nat.reduceEqDiff] at q0 q1 q2 q3
        clear hB3 C2
        go_wp2_with fail
        (with_reducible refine CP.out.mono ?_)
        rintro r w4 ⟨pu, E4, F4, rfl, hE4, hB4⟩
        have HB4 := Lib.hid hB4
        have C4 := Lib.hid (codeX HB4.out hE4 hl9)
        rw [← HHD.out] at C4
        clear hE4 hB4 CP q0 q1 q2 q3
        go_wp2_with fail
        refine C4.out.mono ?_
        rintro r w5 ⟨rfl, hB5⟩
        have HB5 := Lib.hid hB5
        clear hB5 C4
        by_cases hfit : fitB nk ck = true
        · have hd0 : hd = 0 := by rw [HHD.out, HLV.out]; unfold numL; rw [if_pos hfit]; rfl
          have HFIT := Lib.hid hfit
          subst hd0
          clear hfit
          have q0 := HB5.out.bx.cell 0 (by omega)
          have q1 := HB5.out.bx.cell 1 (by omega)
          have q2 := HB5.out.bx.cell 2 (by omega)
          have q3 := HB5.out.bx.cell 3 (by omega)
          unfold stF at q0 q1 q2 q3
          simp only [if_true, if_false, Nat.reduceEqDiff] at q0 q1 q2 q3
          obtain ⟨wa, hwa⟩ : ∃ wa, wa = w5.alloc (.cells #[.int .i64 kk1, .int .i64 nk, .int .i64 ck, .string sk] 49) := ⟨_, rfl⟩
          have ma : Mod [] w5 wa := by rw [hwa]; exact (Mod.refl _ _).alloc _
          have HBA := Lib.hid (HB5.out.step0 ma)
          have hoa := HBA.out.bk.row
          have hgl9 : G.length ≤ 1000000 := by have := HG.out.1.gl; omega
          have hga : w5.heap.size < wa.heap.size := by rw [hwa]; simp
          have hW9 : W.heap.size ≤ wa.heap.size := HBA.out.bk.pw.n.le
          have OC := Lib.hid (show ∀ (j : Nat) u, (stC kk1 nk ck sk)[j]? = some u → wa.cell? ⟨w5.heap.size, j, none⟩ = some u from fun j u hu => by
            rw [hwa]
            match j, hu with
            | 0, hu => simp [stC] at hu; subst hu; simp
            | 1, hu => simp [stC] at hu; subst hu; simp
            | 2, hu => simp [stC] at hu; subst hu; simp
            | 3, hu => simp [stC] at hu; subst hu; simp
            | j + 4, hu => simp [stC] at hu)
          have HWA := Lib.hid hwa
          clear ma hwa
          go_wp2_with (
            at_builtin
            rw [← HWA.out]
            go_loud (refine app1 W.heap.size 43 49 (.agg #[.int .i64 0, .int .i64 0, .int .i64 0, .string ⟨#[]⟩]) 4 40 Tryd.underlying43 step_info rfl (by omega) (by omega) rfl _ _ rfl u5 _ _ rfl hoa w5.heap.size (stC kk1 nk ck sk) rfl rfl OC.out (by simp [stC, Value.oneCell']) (by omega) hW9 ?_)
            intro ga cap w9 ho9 m9 hg9 hb9
            go_loud (have HX9 := Lib.hid (HBA.out.app m9 ho9 (own_news hg9)))
            have q0 := HX9.out.bx.cell 0 (by omega)
            unfold stF at q0
            simp only [if_true, if_false, Nat.reduceEqDiff] at q0
            clear ho9 m9 hg9 hb9 hoa)
          go_roundw
          case rel => exact ⟨k + 1, _, rfl, by omega, by go_num, LoopA.more (m := 0) HG.out HX9.out.bk (LoopA.num_ok HKK.out HFIT.out)⟩
          case measure => simp [intOf]; omega
        · have hd1 : hd = 1 := by rw [HHD.out, HLV.out]; unfold numL; rw [if_neg hfit]; rfl
          have HFIT := Lib.hid hfit
          subst hd1
          clear hfit
          have q0 := HB5.out.bx.cell 0 (by omega)
          unfold stF at q0
          simp only [if_true, if_false, Nat.reduceEqDiff] at q0
          go_wp2
          go_roundw
          case rel => exact ⟨k + 1, _, rfl, by omega, by go_num, LoopA.same HG.out.1 (by have := HB5.out.bk; rw [numB_no HFIT.out] at this; exact this)⟩
          case measure => simp [intOf]; omega
      · have t1 : (kk1 == 0) = false := by simpa using hk0
        clear hk0
        by_cases hk1 : kk1 = 1
        · have HKK : Hid (kk1 = kk k ∧ nk = nn k ∧ ck = cc k ∧ sk = ss k ∧ kk k = 1) := Lib.hid ⟨HG9.out.2.1, HG9.out.2.2.1, HG9.out.2.2.2.1, HG9.out.2.2.2.2, by rw [← hkk1]; exact hk1⟩
          have HG := HG9
          have t2 : (kk1 == 1) = true := by simpa using hk1
          clear hk1 hkk1 HG9
          have CW := Lib.hid (rwtextX HB1.out sk hb6 (by omega))
          unfold XR at CW
          have hl9 : (textL sk).length ≤ 1000 := textL_len _
          obtain ⟨lv, hlv⟩ : ∃ lv, lv = textL sk := ⟨_, rfl⟩
          have HLV := Lib.hid hlv
          rw [← hlv] at CW hl9
          clear hlv
          go_wp2_with fail
          rw [← HW1.out, ← HCB.out]
          (with_reducible refine CW.out.mono ?_)
          rintro r w2 ⟨ru, E2, F2', rfl, hRF, hB2⟩
          have RFH := Lib.hid hRF
          have HB2 := Lib.hid hB2
          have C2 := Lib.hid (rcodeX HB2.out RFH.out hl9)
          obtain ⟨hd, hhd⟩ : ∃ hd, hd = lv.headD 0 := ⟨_, rfl⟩
          have HHD := Lib.hid hhd
          rw [← hhd] at C2
          clear hRF hB2 hhd CW
          go_wp2_with fail
          refine C2.out.mono ?_
          rintro r w3 ⟨rfl, hB3⟩
          have HB3 := Lib.hid hB3
          have CP := Lib.hid (wtextX HB3.out sk hb6 (by omega))
          unfold XL at CP
          rw [← HLV.out] at CP
          have q0 := hB3.bx.cell 0 (by omega)
          have q1 := hB3.bx.cell 1 (by omega)
          have q2 := hB3.bx.cell 2 (by omega)
          have q3 := hB3.bx.cell 3 (by omega)
          unfold stF at q0 q1 q2 q3
          simp only [if_true, if_false, Nat.reduceEqDiff] at q0 q1 q2 q3
          clear hB3 C2
          go_wp2_with fail
          (with_reducible refine CP.out.mono ?_)
          rintro r w4 ⟨pu, E4, F4, rfl, hE4, hB4⟩
          have HB4 := Lib.hid hB4
          have C4 := Lib.hid (codeX HB4.out hE4 hl9)
          rw [← HHD.out] at C4
          clear hE4 hB4 CP q0 q1 q2 q3
          go_wp2_with fail
          refine C4.out.mono ?_
          rintro r w5 ⟨rfl, hB5⟩
          have HB5 := Lib.hid hB5
          clear hB5 C4
          by_cases hfit : sk.size ≤ 1024
          · have hd0 : hd = 0 := by rw [HHD.out, HLV.out]; unfold textL; rw [if_pos hfit]; rfl
            have HFIT := Lib.hid hfit
            subst hd0
            clear hfit
            have q0 := HB5.out.bx.cell 0 (by omega)
            have q1 := HB5.out.bx.cell 1 (by omega)
            have q2 := HB5.out.bx.cell 2 (by omega)
            have q3 := HB5.out.bx.cell 3 (by omega)
            unfold stF at q0 q1 q2 q3
            simp only [if_true, if_false, Nat.reduceEqDiff] at q0 q1 q2 q3
            obtain ⟨wa, hwa⟩ : ∃ wa, wa = w5.alloc (.cells #[.int .i64 kk1, .int .i64 nk, .int .i64 ck, .string sk] 49) := ⟨_, rfl⟩
            have ma : Mod [] w5 wa := by rw [hwa]; exact (Mod.refl _ _).alloc _
            have HBA := Lib.hid (HB5.out.step0 ma)
            have hoa := HBA.out.bk.row
            have hgl9 : G.length ≤ 1000000 := by have := HG.out.1.gl; omega
            have hga : w5.heap.size < wa.heap.size := by rw [hwa]; simp
            have hW9 : W.heap.size ≤ wa.heap.size := HBA.out.bk.pw.n.le
            have OC := Lib.hid (show ∀ (j : Nat) u, (stC kk1 nk ck sk)[j]? = some u → wa.cell? ⟨w5.heap.size, j, none⟩ = some u from fun j u hu => by
              rw [hwa]
              match j, hu with
              | 0, hu => simp [stC] at hu; subst hu; simp
              | 1, hu => simp [stC] at hu; subst hu; simp
              | 2, hu => simp [stC] at hu; subst hu; simp
              | 3, hu => simp [stC] at hu; subst hu; simp
              | j + 4, hu => simp [stC] at hu)
            have HWA := Lib.hid hwa
            clear ma hwa
            go_wp2_with (
              at_builtin
              rw [← HWA.out]
              go_loud (refine app1 W.heap.size 43 49 (.agg #[.int .i64 0, .int .i64 0, .int .i64 0, .string ⟨#[]⟩]) 4 40 Tryd.underlying43 step_info rfl (by omega) (by omega) rfl _ _ rfl u5 _ _ rfl hoa w5.heap.size (stC kk1 nk ck sk) rfl rfl OC.out (by simp [stC, Value.oneCell']) (by omega) hW9 ?_)
              intro ga cap w9 ho9 m9 hg9 hb9
              go_loud (have HX9 := Lib.hid (HBA.out.app m9 ho9 (own_news hg9)))
              have q0 := HX9.out.bx.cell 0 (by omega)
              unfold stF at q0
              simp only [if_true, if_false, Nat.reduceEqDiff] at q0
              clear ho9 m9 hg9 hb9 hoa)
            go_roundw
            case rel => exact ⟨k + 1, _, rfl, by omega, by go_num, LoopA.more (m := 0) HG.out HX9.out.bk (LoopA.text_ok HKK.out HFIT.out)⟩
            case measure => simp [intOf]; omega
          · have hd1 : hd = 11 := by rw [HHD.out, HLV.out]; unfold textL; rw [if_neg hfit]; rfl
            have HFIT := Lib.hid hfit
            subst hd1
            clear hfit
            have q0 := HB5.out.bx.cell 0 (by omega)
            unfold stF at q0
            simp only [if_true, if_false, Nat.reduceEqDiff] at q0
            go_wp2
            go_roundw
            case rel => exact ⟨k + 1, _, rfl, by omega, by go_num, LoopA.same HG.out.1 (by have := HB5.out.bk; rw [textB_no HFIT.out] at this; exact this)⟩
            case measure => simp [intOf]; omega
        · have t2 : (kk1 == 1) = false := by simpa using hk1
          have HG := HG9
          clear hk1 hkk1
          go_wp2
          rw [← HW1.out]
          go_roundw
          case rel => exact ⟨k + 1, _, rfl, by omega, by go_num, LoopA.same HG.out.1 HB1.out.bk⟩
          case measure => simp [intOf]; omega
    · have i1 : ¬ (k : Int) < (n : Int) := by omega
      have hGn : G.length ≤ 8192 := by omega
      obtain ⟨A5, c5, he5, hc5, hcm5, _⟩ := (own_slA hBk.row).ex
      have hc59 : c5 ≤ 9223372036854775807 := by unfold maxLen at hcm5; omega
      obtain ⟨S, hS⟩ : ∃ S, S = txt (flatB kk nn cc ss G) := ⟨_, rfl⟩
      have hSl : S.size = (flatB kk nn cc ss G).length := by rw [hS, txt_size]
      have hSz : S.size ≤ 1000000 := by omega
      have hbl : (flatB kk nn cc ss G).length ≤ 400000 := by omega
      obtain ⟨bs, hbs⟩ : ∃ bs, bs = flatB kk nn cc ss G := ⟨_, rfl⟩
      have hSb : S = txt bs := by rw [hS, hbs]
      subst he5
      rw [← hbs] at hBk hSl hbl
      have HBk := Lib.hid hBk
      have HS9 := Lib.hid hS
      have HSB := Lib.hid hSb
      have HOK := Lib.hid hok
      have HBS := Lib.hid hbs
      clear hBk hl hl2 hgl hok hcm5 hS hSb hbs hwk
      go_wp2_with fail
      refine (wbytesT wr b bs F HBk.out.pw.p.h S HSB.out).mono ?_
      rintro r w1 ⟨rfl, rfl⟩
      go_wp2_with fail
      refine (newReaderK S HBk.out).mono ?_
      rintro r w2 ⟨br, rfl, hK⟩
      have HK := Lib.hid hK
      clear hK
      go_wp2
      go_loopw [11] (fun i wx => ∃ j : Nat, j ≤ G.length ∧ i = .int .i64 j ∧ Rk W wx b bs F b2 bs F2 (.slice A5 G.length c5) G.length (rowC kk nn cc ss G) br S (posB kk nn cc ss G j)) (fun i _ => G.length - (intOf i).toNat)
      case atStart => exact ⟨0, Nat.zero_le _, rfl, by rw [pos_zero]; exact HK.out⟩
      case round =>
        obtain ⟨j, hj, rfl, hR⟩ := hrel
        clear HK HBk
        by_cases hjl : j < G.length
        · have i0 : (0 : Int) ≤ (j : Int) := by omega
          have i2 : (j : Int) < (G.length : Int) := by omega
          obtain ⟨g, cg, he, -, -, -, An⟩ := own_arr hR.bk.row (by omega)
          injection he with e1 _ e2
          subst e1
          subst e2
          obtain ⟨hil, hcase⟩ := HOK.out G[j] (List.getElem_mem hjl)
          obtain ⟨k0, k1⟩ := HS.out.bc _ hil
          have HR := Lib.hid hR
          have f0 := rowC_get kk nn cc ss G j 0 hjl (by omega)
          have f1 := rowC_get kk nn cc ss G j 1 hjl (by omega)
          have f2 := rowC_get kk nn cc ss G j 2 hjl (by omega)
          have f3 := rowC_get kk nn cc ss G j 3 hjl (by omega)
          have q0 := An.cell (j * 4 + 0) (by omega)
          have q1 := An.cell (j * 4 + 1) (by omega)
          have q2 := An.cell (j * 4 + 2) (by omega)
          have q3 := An.cell (j * 4 + 3) (by omega)
          rw [f0] at q0
          rw [f1] at q1
          rw [f2] at q2
          rw [f3] at q3
          unfold stF at q0 q1 q2 q3 f1 f3
          simp only [if_true, if_false, Nat.reduceEqDiff, Nat.add_zero] at q0 q1 q2 q3 f1 f3
          obtain ⟨i9, hi9⟩ : ∃ i9, i9 = G[j] := ⟨_, rfl⟩
          rw [← hi9] at hil hcase k0 k1 q0 q1 q2 q3 f1 f3
          have HF1 := Lib.hid f1.symm
          have HF3 := Lib.hid f3.symm
          clear hR An f0 f1 f2 f3
          rcases hcase with ⟨hk0, hf⟩ | ⟨hk0, hf⟩
          · have hB := back_num kk nn cc ss G j hjl (by rw [← hi9]; exact hk0) (by rw [← hi9]; exact hf) (by rw [← hi9]; exact (HS.out.bn _ hil).2)
            rw [← hi9, ← HS9.out] at hB
            obtain ⟨b1, b2', b3⟩ := hB
            have tk : (kk i9 == 0) = true := by rw [hk0]; rfl
            generalize kk i9 = kk1 at *
            generalize nn i9 = nk at *
            generalize cc i9 = ck at *
            generalize ss i9 = sk at *
            have P := Lib.hid (rnumK HR.out ck hSz k0 k1 nk b1 b2' b3)
            unfold RkP at P
            clear b1 b2' b3 hk0 hf hi9
            go_wp2_with fail
            (with_reducible refine P.out.mono ?_)
            rintro r w3 ⟨pu, E3, rfl, hE3, hR3⟩
            have HR3 := Lib.hid hR3
            have C3 := Lib.hid (codeK hR3 hE3 (by simp))
            have An3 := (own_arr hR3.bk.row (by omega))
            obtain ⟨g', cg', he', -, -, -, An3⟩ := An3
            injection he' with ea eb ec
            injection ea with ea
            injection ea with ea
            subst ea
            have p1 := An3.cell (j * 4 + 1) (by omega)
            have p3 := An3.cell (j * 4 + 3) (by omega)
            rw [← HF1.out] at p1
            rw [← HF3.out] at p3
            simp only [List.headD_nil] at C3
            clear P hE3 hR3 An3 eb ec q0 q1 q2 q3
            go_wp2_with fail
            refine C3.out.mono ?_
            rintro r w4 ⟨rfl, hR4⟩
            have HR4 := Lib.hid hR4
            clear hR4 p1 p3
            go_wp2
            go_roundw
            case rel => exact ⟨j + 1, by omega, by go_num, HR4.out⟩
            case measure => simp [intOf]; omega
          · have hB := back_text kk nn cc ss G j hjl (by rw [← hi9]; exact hk0) (by rw [← hi9]; exact hf)
            rw [← hi9, ← HS9.out] at hB
            obtain ⟨b1, b2', b3⟩ := hB
            have tk : (kk i9 == 0) = false := by rw [hk0]; rfl
            generalize kk i9 = kk1 at *
            generalize nn i9 = nk at *
            generalize cc i9 = ck at *
            generalize ss i9 = sk at *
            have P := Lib.hid (rtextK HR.out hSz sk b1 b2' b3)
            unfold RkP at P
            clear b1 b2' b3 hk0 hf hi9
            go_wp2_with fail
            (with_reducible refine P.out.mono ?_)
            rintro r w3 ⟨pu, E3, rfl, hE3, hR3⟩
            have HR3 := Lib.hid hR3
            have C3 := Lib.hid (codeK hR3 hE3 (by simp))
            have An3 := (own_arr hR3.bk.row (by omega))
            obtain ⟨g', cg', he', -, -, -, An3⟩ := An3
            injection he' with ea eb ec
            injection ea with ea
            injection ea with ea
            subst ea
            have p1 := An3.cell (j * 4 + 1) (by omega)
            have p3 := An3.cell (j * 4 + 3) (by omega)
            rw [← HF1.out] at p1
            rw [← HF3.out] at p3
            simp only [List.headD_nil] at C3
            clear P hE3 hR3 An3 eb ec q0 q1 q2 q3
            go_wp2_with fail
            refine C3.out.mono ?_
            rintro r w4 ⟨rfl, hR4⟩
            have HR4 := Lib.hid hR4
            clear hR4 p1 p3
            go_wp2
            go_roundw
            case rel => exact ⟨j + 1, by omega, by go_num, HR4.out⟩
            case measure => simp [intOf]; omega
        · have i2 : ¬ (j : Int) < (G.length : Int) := by omega
          obtain rfl : j = G.length := by omega
          rw [pos_end, ← HBS.out] at hR
          obtain ⟨vb, hA2, ho2, -⟩ := hR.bk.pw.q.h.ex
          obtain ⟨A2, c2, rfl, -, hcm2, -⟩ := (own_slA ho2).ex
          have hb2F : b2 ∉ F := fun h => hR.bk.pw.d b2 h hR.bk.pw.q.h.here
          have y2 : wr.cell? ⟨b2, 0, none⟩ = some (.slice A2 bs.length c2) := hA2.cell 0 (by omega)
          have M0 : Mod [] wr wr.drew := (Mod.refl _ _).drew
          have hend : endL S bs.length = [] := by unfold endL; rw [if_neg (by omega)]
          have R0 := Lib.hid (hR.step0 M0)
          have KS := Lib.hid (show ∀ w', Mod F wr.drew w' → w'.cell? ⟨b2, 0, none⟩ = some (.slice A2 bs.length c2) from fun w' m => (M0.nil.trans m).cell' y2 hb2F)
          have TT := Lib.hid (show ∀ w', Mod [] wr.drew w' → ErrT w' from fun w' m => hR.bk.pw.n.t.mod (M0.trans m) (by simp))
          have RR := Lib.hid (show ∀ w', Mod [] wr.drew w' → Rk W w' b bs F b2 bs F2 (.slice A5 G.length c5) G.length (rowC kk nn cc ss G) br S bs.length from fun w' m => hR.step0 (M0.trans m))
          clear hA2 ho2 hcm2 hR M0 y2
          go_wp2
          go_region_held3 (fun w' => w'.cell? ⟨b2, 0, none⟩ = some (.slice A2 bs.length c2))
            ((refine KS.out _ ?_; with_reducible first
              | exact Mod.refl _ _
              | exact M1.out.nil
              | exact M2.out.nil
              | exact M6.out
              | exact M7.out))
            (first
              | (go_at_call 36; (refine (rendK R0.out hSz hend).mono ?_); rintro r w1 ⟨u1, E1, rfl, hE1, m1, -⟩; have M1 := Lib.hid m1; have X1 := Lib.hid hE1; clear m1 hE1)
              | (go_at_call 22; (with_reducible refine (code_calls _ u1 [] E1 X1.out (TT.out _ M1.out) (by simp)).mono ?_); rintro r w2 ⟨rfl, m2⟩; have M2 := Lib.hid (M1.out.trans m2); clear m2)
              | (go_at_call 38; (with_reducible refine (rat_calls _ br S _ (RR.out _ M2.out).r.h).mono ?_); rintro r w3 ⟨rfl, rfl⟩)
              | (go_at_call 23; (with_reducible refine (wnumN 1 3 (RR.out _ M2.out).bk.pw.n (RR.out _ M2.out).bk.pw.p (by omega) (by omega) (by omega) (by omega) hbl).mono ?_); rintro r w6 ⟨v6, E6, F6, rfl, hE6, -, -, hG6, hN6⟩; rw [fit13] at hE6; have X6 := Lib.hid hE6; have N6 := Lib.hid hN6; have M6 := Lib.hid (M2.out.nil.trans hG6.mod); clear hE6 hG6 hN6)
              | (go_at_call 22; (with_reducible refine (codeN N6.out X6.out (by simp)).mono ?_); rintro r w7 ⟨rfl, m7, hN7⟩; have N7 := Lib.hid hN7; have M7 := Lib.hid (M6.out.trans m7.nil); clear hN7 m7))
          go_wp2
          go_ret
          exact ⟨rfl, N7.out.bel⟩
end Go.Proofs.YthcbhdadbohkjaaDoor

