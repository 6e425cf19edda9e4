/- The document's writer: Text and Bytes; its faults' Code; Same; the law's comparison of an error with a fault. Premises: the writer's bytes lie in memory of its own; the error and the fault have one chain. -/
import Derived.Test.YtphcoenooinmfaaDoorRWtr
namespace Go.Proofs.YtphcoenooinmfaaDoor
open Go.RowKit
set_option linter.unusedVariables false
set_option linter.unusedSimpArgs false
attribute [local go_sem ↓] Go.wp_at_zero Go.wp_at_succ

theorem rwbytes_calls (w : World) (b : Nat) (bs : List UInt8) (F : List Nat) (hW : Wtr w 110 b bs F) :
    Calls Tryd.prog 57 #[.pointer (some ⟨b, 0, none⟩)] w fun r w' => r = .returned (.string ⟨bs.toArray⟩) ∧ w = w' := by
  obtain ⟨v, hA, ho, _⟩ := hW.ex
  have c0 := hA.cell 0 (by omega)
  have cv := conv_bs w v bs ho
  clear hW hA ho
  go_enter Tryd.func57, Tryd.ntmps57
  go_wp2
  go_ret
  exact ⟨rfl, rfl⟩
theorem RWrPost.to {w w' : World} {T b : Nat} {F : List Nat} {l : List Int} {bs : List UInt8} {r : Ending} (h : RWrPost w T b F l bs r w') : RWrPost w T b F l bs r w' := h
set_option maxRecDepth 100000 in
set_option maxHeartbeats 4000000 in
theorem rwtext_calls (w : World) (b : Nat) (bs : List UInt8) (F : List Nat) (s : ByteArray) (hW : Wtr w 110 b bs F) (hs : s.size ≤ 140737488351232) (hl : bs.length ≤ 300000) :
    Calls Tryd.prog 55 #[.pointer (some ⟨b, 0, none⟩), .string s] w (RWrPost w 110 b F (textL s) (textB bs s)) := by
  have HW := Lib.hid hW
  obtain ⟨w0, hw0⟩ : ∃ w0, w0 = w.alloc (.cells #[.slice none 0 0, .int .i64 0] 112) := ⟨_, rfl⟩
  have m0 : Mod [] w w0 := by rw [hw0]; exact (Mod.refl _ _).alloc _
  have hsz : w0.heap.size = w.heap.size + 1 := by rw [hw0]; simp
  have RA : Hid (Arr w0 w.heap.size 112 2 (fun i => if i = 0 then .slice none 0 0 else .int .i64 0)) := Lib.hid (by rw [hw0]; exact res_arr w)
  have hW0 := hW.mod0 m0
  have HW0 := Lib.hid hW0
  have M0 := Lib.hid m0
  have HSZ := Lib.hid hsz
  have HZ := Lib.hid hw0
  by_cases h : s.size ≤ 1024
  · have hf := Lib.hid (text_yes h)
    have t1 : decide ((1024 : Int) < (s.size : Int)) = false := by simp; omega
    have hfit : fitB (s.size : Int) 2 = true := by simp [fitB, wideB]; omega
    have P := Lib.hid (rwnum_calls w0 b bs F s.size 2 hW0 (by omega) (by omega) (by omega) (by omega) (by omega))
    have hfy := Lib.hid (fit_yes hfit)
    clear hW hW0 hw0 m0 hsz hfit
    go_enter Tryd.func55, Tryd.ntmps55
    go_wp2_with fail
    rw [← HZ.out]
    refine P.out.mono ?_
    rintro r w1 ⟨vf, E, F1, rfl, hE, _, hW1, hG1⟩
    rw [hfy.out.2] at hW1
    simp only [Int.toNat_natCast, show (2 : Int).toNat = 2 from rfl] at hW1
    clear hE
    obtain ⟨v, hA, ho, hg⟩ := hW1.ex
    have c0 := hA.cell 0 (by omega)
    have hlen : (bs ++ leB s.size 2).length ≤ 500000 := by simp [leB_length]; omega
    obtain ⟨b1, hb1⟩ : ∃ b1, b1 = bs ++ leB s.size 2 := ⟨_, rfl⟩
    have HB1 := Lib.hid hb1
    have HG1 := Lib.hid hG1
    have HA := Lib.hid hA
    have HGG := Lib.hid hg
    rw [← hb1] at ho hlen hW1
    have HW1 := Lib.hid hW1
    clear hW1 hG1 hA hb1 hg
    go_wp2_with (
      at_builtin
      refine appS 0 80 9 5 Tryd.underlying80 Tryd.underlying9 u8_info rfl _ _ rfl v _ _ rfl ho s rfl (by omega) (by omega) (Nat.zero_le _) ?_
      intro v' w2 ho2 m2 hv2
      have hbn : b ∉ v.ownBlock.toList := fun hx => (HGG.out b (by simpa using hx)).2 rfl
      obtain ⟨A8, cap8, rfl, _, _, _⟩ := (own_slA ho2).ex
      have hA2 := HA.out.mod m2 hbn
      have c2 := hA2.cell 0 (by omega)
      have f2 := hA2.free 0
      have ST := Lib.hid (HW1.out.stored HA.out HGG.out m2 ho2 (bs' := b1 ++ s.data.toList) (by first | (simp; done) | (simp; rfl)) (by rw [strCells_u8]; simp) (fun g e => by
        rcases hv2 with h1 | h1
        · left; rw [← h1]; exact e
        · right; rw [h1] at e; simp at e; omega))
      have hnw : w.heap.size ∉ F1 := fun hx => by
        rcases HG1.out.new _ hx with h1 | h1
        · have := HW.out.lt _ h1; omega
        · have := HSZ.out; omega
      have hnv : w.heap.size ∉ v.ownBlock.toList := fun hx => hnw (HGG.out _ (by simpa using hx)).1
      have hnb : b ≠ w.heap.size := fun hx => hnw (hx ▸ HW1.out.here)
      have hAR := ((RA.out.mod HG1.out.mod (fun hx => by have := HW.out.lt _ hx; omega)).mod m2 hnv).other (p := ⟨b, 0, none⟩) hnb (.slice A8 (b1.length + s.size) cap8)
      have r0 := hAR.cell 0 (by omega)
      have r1 := hAR.cell 1 (by omega)
      have g0 := hAR.free 0
      have g1 := hAR.free 1
      simp only [if_true, if_false, Nat.reduceEqDiff] at r0 r1
      clear hA2 ho2 m2 ho hbn hAR hnw hnv hnb)
    (try simp only [Exit.inBlock, Exit.then])
    refine bodyPost_ret (v := .agg #[.slice none 0 0, .int .i64 0]) ?_ rfl ?_
    · rw [results_cell1 rfl]
      go_simp
    · obtain ⟨F2, hW2, hG2⟩ := ST.out
      rw [hf.out.1, hf.out.2, ← HB1.out]
      exact RWrPost.goodS HW.out.lt M0.out HSZ.out hW2 (HG1.out.trans hG2) _ _
  · have hf := Lib.hid (text_no h)
    obtain ⟨v, hA, ho, _⟩ := hW0.ex
    have c0 := hA.cell 0 (by omega)
    obtain ⟨A9, cap9, rfl, hc9, hc9', _⟩ := (own_slA ho).ex
    have HC := Lib.hid hc9'
    have ONE := Lib.hid (oneRF_calls w0 11 bs.length)
    have t1 : decide ((1024 : Int) < (s.size : Int)) = true := by simp; omega
    rw [hw0] at c0 ONE
    clear hA ho hc9' hW hW0 m0 hsz hw0
    go_enter Tryd.func55, Tryd.ntmps55
    go_wp2_with fail
    refine ONE.out.mono ?_
    rintro r w1 ⟨sv, rfl, hRF, ⟨A, c, rfl⟩, m1⟩
    have hAR := (res_arr w).mod m1 (by simp)
    have r0 := hAR.cell 0 (by omega)
    have r1 := hAR.cell 1 (by omega)
    have g0 := hAR.free 0
    have g1 := hAR.free 1
    simp only [if_true, if_false, Nat.reduceEqDiff] at r0 r1
    have FIN := Lib.hid (And.intro hRF m1)
    clear hRF m1 hAR
    go_wp2
    (try simp only [Exit.inBlock, Exit.then])
    refine bodyPost_ret (v := .agg #[.slice A 1 c, .int .i64 bs.length]) ?_ rfl ?_
    · rw [results_cell1 rfl]
      go_simp
    · rw [hf.out.1, hf.out.2]
      exact RWrPost.badS HW.out FIN.out.1 (fun x hx => by simp at hx; omega) (by have := M0.out; rw [HZ.out] at this; exact this.trans FIN.out.2) _ _
theorem rcode_calls (w : World) (v : Value) (l : List Int) (E : List Nat) (hR : RF w v l E) (hl : l.length ≤ 1000) :
    Calls Tryd.prog 67 #[v] w fun r w' => r = .returned (.int .i64 (l.headD 0)) ∧ Mod [] w w' := by
  obtain ⟨sv, a, rfl, ho, _⟩ := hR
  have m : ∀ A n c, Mod [] w (w.alloc (.cells #[.slice A n c, .int .i64 a] 112)) := fun _ _ _ => (Mod.refl _ _).alloc _
  have M := Lib.hid m
  cases l with
  | nil =>
    obtain ⟨A, cap, rfl, _⟩ := (own_slA ho).ex
    clear ho m
    simp only [List.length_nil]
    go_enter Tryd.func67, Tryd.ntmps67
    go_wp2
    go_ret
    exact ⟨rfl, M.out _ _ _⟩
  | cons x l' =>
    obtain ⟨g, cap, rfl, _, hcap, hcm, hA⟩ := own_arr ho (by simp)
    have c0 := (hA.alloc (.cells #[.slice (some ⟨g, 0, none⟩) (l'.length + 1) cap, .int .i64 a] 112)).cell 0 (by simp)
    have hx : (ints (x :: l')).getD 0 undef = .int .i64 x := rfl
    rw [hx] at c0
    have hn : ((l'.length : Int) + 1 == 0) = false := by simp; omega
    have hn0 : (0 : Int) < (l'.length : Int) + 1 := by omega
    have hn1 : 0 < l'.length + 1 := by omega
    have hc1 : cap ≤ 9223372036854775807 := by unfold maxLen at hcm; exact hcm
    simp only [List.length_cons] at hl hcap
    clear ho hA hx hcm m
    simp only [List.length_cons]
    go_enter Tryd.func67, Tryd.ntmps67
    go_wp2
    go_ret
    exact ⟨rfl, M.out _ _ _⟩
theorem ints_get {l : List Int} {k : Nat} (h : k < l.length) : (ints l).getD (k * 1 + 0) undef = .int .i64 (l.getD k 0) := by
  simp [ints, List.getD_eq_getElem?_getD, List.getElem?_eq_getElem h]
set_option maxHeartbeats 1000000 in
/-- Two lists that are one are the same. -/
theorem same_calls (w : World) (u v : Value) (l : List Int) (b1 b2 : Nat) (hu : w.ownsRow b1 22 1 u l.length (ints l)) (hv : w.ownsRow b2 22 1 v l.length (ints l)) (hl : l.length ≤ 1000) :
    Calls Tryd.prog 37 #[u, v] w fun r w' => r = .returned (.bool true) ∧ Mod [] w w' := by
  obtain ⟨A1, p1, rfl, h1, h1', hx⟩ := (own_slA hu).ex
  obtain ⟨A2, p2, rfl, h2, h2', hy⟩ := (own_slA hv).ex
  have z1 : p1 ≤ 9223372036854775807 := by unfold maxLen at h1'; exact h1'
  have z2 : p2 ≤ 9223372036854775807 := by unfold maxLen at h2'; exact h2'
  obtain ⟨n, hn⟩ : ∃ n, n = l.length := ⟨_, rfl⟩
  rw [← hn] at hx hy hl h1 h2 ⊢
  have HN := Lib.hid hn
  have HX := Lib.hid hx
  have HY := Lib.hid hy
  clear hu hv h1' h2' hx hy hn
  go_enter Tryd.func37, Tryd.ntmps37
  go_wp2
  go_loopw [5] (fun i wr => ∃ k : Nat, k ≤ n ∧ i = .int .i64 k ∧ Mod [] w wr) (fun i _ => n - (intOf i).toNat)
  case atStart => exact ⟨0, Nat.zero_le _, rfl, Mod.refl _ _⟩
  case round =>
    obtain ⟨k, hk, rfl, hM⟩ := hrel
    by_cases hlt : k < n
    · obtain ⟨g1, o1, rfl, e1⟩ := HX.out (by omega)
      obtain ⟨g2, o2, rfl, e2⟩ := HY.out (by omega)
      have x1 := e1 k 0 hlt (by omega)
      have x2 := e2 k 0 hlt (by omega)
      rw [ints_get (by rw [← HN.out]; exact hlt)] at x1 x2
      simp only [Nat.mul_one, Nat.add_zero] at x1 x2
      replace x1 := hM.cell' x1 (by simp)
      replace x2 := hM.cell' x2 (by simp)
      have i0 : (0 : Int) ≤ (k : Int) := by omega
      have i1 : (k : Int) < (n : Int) := by omega
      have M1 := Lib.hid hM
      clear e1 e2 hM
      generalize l.getD k 0 = x at *
      go_wp2_with fail
      go_region
      go_wp2
      go_roundw
      case rel => exact ⟨k + 1, by omega, by go_num, M1.out.drew⟩
      case measure => simp [intOf]; omega
    · have i1 : ¬ (k : Int) < (n : Int) := by omega
      have F := Lib.hid hM
      clear hM
      go_wp2
      go_ret
      exact ⟨rfl, F.out⟩
end Go.Proofs.YtphcoenooinmfaaDoor
