/- Package field's writer: Num, Text and Bytes; NewWriter. Premise: the writer's bytes lie in memory of its own. -/
import Derived.Test.YtphcoenooinmfaaDoorWtr
namespace Go.Proofs.YtphcoenooinmfaaDoor
open Go.RowKit
set_option linter.unusedVariables false
set_option linter.unusedSimpArgs false

theorem newWriter_calls (w : World) :
    Calls Tryd.prog 47 #[] w fun r w' => r = .returned (.pointer (some ⟨w.heap.size, 0, none⟩)) ∧ Wtr w' 144 w.heap.size [] [w.heap.size] ∧ Mod [] w w' := by
  have H := Wtr.new w 144
  have m : Mod [] w (w.alloc (.cells #[.slice none 0 0] 144)) := (Mod.refl _ _).alloc _
  go_enter Tryd.func47, Tryd.ntmps47
  go_wp2
  go_ret
  exact ⟨rfl, H, m⟩
theorem wbytes_calls (w : World) (b : Nat) (bs : List UInt8) (F : List Nat) (hW : Wtr w 144 b bs F) :
    Calls Tryd.prog 52 #[.pointer (some ⟨b, 0, none⟩)] w fun r w' => r = .returned (.string ⟨bs.toArray⟩) ∧ w = w' := by
  obtain ⟨v, hA, ho, _⟩ := hW.ex
  have c0 := hA.cell 0 (by omega)
  have cv := conv_bs w v bs ho
  clear hW hA ho
  go_enter Tryd.func52, Tryd.ntmps52
  go_wp2
  go_ret
  exact ⟨rfl, rfl⟩
/-- What a writing call leaves: an error v of the chain l; the writer has bs'. -/
def WrPost (w : World) (T b : Nat) (F : List Nat) (l : List Int) (bs' : List UInt8) (r : Ending) (w' : World) : Prop :=
  ∃ v E F', r = .returned v ∧ Errs w' v l E ∧ (∀ x, x ∈ E → w.heap.size ≤ x ∧ x ∉ F') ∧ Wtr w' T b bs' F' ∧ Grow F F' w w'
theorem WrPost.bad {w w' : World} {T b : Nat} {bs : List UInt8} {F : List Nat} {l : List Int} {v : Value} {E : List Nat} (hW : Wtr w T b bs F) (hE : Errs w' v l E) (hx : ∀ x, x ∈ E → w.heap.size ≤ x) (m : Mod [] w w') : WrPost w T b F l bs (.returned v) w' :=
  ⟨v, E, F, rfl, hE, fun x h => ⟨hx x h, fun hF => by have := hx x h; have := hW.lt x hF; omega⟩, hW.mod0 m, Grow.of_mod m⟩
theorem WrPost.good {w w' : World} {T b : Nat} {bs : List UInt8} {F F' : List Nat} (hW : Wtr w' T b bs F') (hG : Grow F F' w w') : WrPost w T b F [] bs (.returned .nilIface) w' :=
  ⟨_, [], F', rfl, .nil, by simp, hW, hG⟩
theorem fit_yes {n k : Int} (h : fitB n k = true) : numL n k = [] ∧ ∀ bs, numB bs n k = bs ++ leB n.toNat k.toNat := by simp [numL, numB, h]
theorem fit_no {n k : Int} (h : fitB n k = false) : numL n k = [1] ∧ ∀ bs, numB bs n k = bs := by simp [numL, numB, h]
set_option maxRecDepth 100000 in
set_option maxHeartbeats 4000000 in
theorem wnum_calls (w : World) (b : Nat) (bs : List UInt8) (F : List Nat) (n k : Int) (hW : Wtr w 144 b bs F) (n0 : -9223372036854775808 ≤ n) (n1 : n ≤ 9223372036854775807) (k0 : -9223372036854775808 ≤ k) (k1 : k ≤ 9223372036854775807) (hl : bs.length ≤ 400000) :
    Calls Tryd.prog 49 #[.pointer (some ⟨b, 0, none⟩), .int .i64 n, .int .i64 k] w (WrPost w 144 b F (numL n k) (numB bs n k)) := by
  obtain ⟨v, hA, ho, _⟩ := hW.ex
  have c0 := hA.cell 0 (by omega)
  obtain ⟨A9, cap9, rfl, hc9, hc9', _⟩ := (own_slA ho).ex
  have HC := Lib.hid hc9'
  have HW := Lib.hid hW
  have BAD := Lib.hid (wrapE_calls w 1 bs.length .nilIface [] [] (by omega) .nil)
  clear hA ho hc9' hW
  by_cases hw : wideB k = true
  rotate_left
  · have hw' : wideB k = false := by simpa using hw
    have hf := Lib.hid (fit_no (n := n) (k := k) (by simp [fitB, hw']))
    have ne1 : (k == 1) = false := by simp [wideB] at hw; simp; omega
    have ne2 : (k == 2) = false := by simp [wideB] at hw; simp; omega
    have ne4 : (k == 4) = false := by simp [wideB] at hw; simp; omega
    have ne8 : (k == 8) = false := by simp [wideB] at hw; simp; omega
    clear hw hw'
    go_enter Tryd.func49, Tryd.ntmps49
    go_wp2_with (go_at_call 46; refine BAD.out.mono ?_; rintro r w1 ⟨v, rfl, hE, m1⟩; have P1 := Lib.hid (WrPost.bad HW.out hE (fun x hx => by simp at hx; omega) m1); clear hE m1)
    go_ret
    rw [hf.out.1, hf.out.2]
    exact P1.out
  have hk4 : k = 1 ∨ k = 2 ∨ k = 4 ∨ k = 8 := by simpa [wideB] using hw
  clear hw
  by_cases hfit : fitB n k = true
  · have hf := Lib.hid (fit_yes hfit)
    have hfit' : (k = 1 ∨ k = 2 ∨ k = 4 ∨ k = 8) ∧ 0 ≤ n ∧ (k = 8 ∨ n < 2 ^ (8 * k.toNat)) := by simpa [fitB, wideB] using hfit
    obtain ⟨_, hn0, hnk⟩ := hfit'
    obtain ⟨nn, rfl⟩ : ∃ nn : Nat, n = (nn : Int) := ⟨n.toNat, by omega⟩
    have hn9 : nn < 9223372036854775808 := by omega
    clear hfit
    rcases hk4 with rfl | rfl | rfl | rfl
    · have hm : (nn : Int) ≤ 255 := by simp at hnk; omega
      have t1 : decide ((nn : Int) < 0) = false := by simp
      have t2 : decide ((255 : Int) < (nn : Int)) = false := by simp; omega
      have P := Lib.hid (put_calls w b bs F nn 1 HW.out hn9 (by omega) (by omega))
      clear hnk
      go_enter Tryd.func49, Tryd.ntmps49
      go_wp2_with (go_at_call 72; refine P.out.mono ?_; rintro r w1 ⟨rfl, PW⟩; have P1 := Lib.hid PW; clear PW)
      go_ret
      obtain ⟨F', hW', hG'⟩ := P1.out
      rw [hf.out.1, hf.out.2]
      exact WrPost.good hW' hG'
    · have hm : (nn : Int) ≤ 65535 := by simp at hnk; omega
      have t1 : decide ((nn : Int) < 0) = false := by simp
      have t2 : decide ((65535 : Int) < (nn : Int)) = false := by simp; omega
      have P := Lib.hid (put_calls w b bs F nn 2 HW.out hn9 (by omega) (by omega))
      clear hnk
      go_enter Tryd.func49, Tryd.ntmps49
      go_wp2_with (go_at_call 72; refine P.out.mono ?_; rintro r w1 ⟨rfl, PW⟩; have P1 := Lib.hid PW; clear PW)
      go_ret
      obtain ⟨F', hW', hG'⟩ := P1.out
      rw [hf.out.1, hf.out.2]
      exact WrPost.good hW' hG'
    · have hm : (nn : Int) ≤ 4294967295 := by simp at hnk; omega
      have t1 : decide ((nn : Int) < 0) = false := by simp
      have t2 : decide ((4294967295 : Int) < (nn : Int)) = false := by simp; omega
      have P := Lib.hid (put_calls w b bs F nn 4 HW.out hn9 (by omega) (by omega))
      clear hnk
      go_enter Tryd.func49, Tryd.ntmps49
      go_wp2_with (go_at_call 72; refine P.out.mono ?_; rintro r w1 ⟨rfl, PW⟩; have P1 := Lib.hid PW; clear PW)
      go_ret
      obtain ⟨F', hW', hG'⟩ := P1.out
      rw [hf.out.1, hf.out.2]
      exact WrPost.good hW' hG'
    · have hm : (nn : Int) ≤ 9223372036854775807 := by simp at hnk; omega
      have t1 : decide ((nn : Int) < 0) = false := by simp
      have t2 : decide ((9223372036854775807 : Int) < (nn : Int)) = false := by simp; omega
      have P := Lib.hid (put_calls w b bs F nn 8 HW.out hn9 (by omega) (by omega))
      clear hnk
      go_enter Tryd.func49, Tryd.ntmps49
      go_wp2_with (go_at_call 72; refine P.out.mono ?_; rintro r w1 ⟨rfl, PW⟩; have P1 := Lib.hid PW; clear PW)
      go_ret
      obtain ⟨F', hW', hG'⟩ := P1.out
      rw [hf.out.1, hf.out.2]
      exact WrPost.good hW' hG'
  · have hf := Lib.hid (fit_no (by simpa using hfit))
    have hfit' : ¬ (0 ≤ n ∧ (k = 8 ∨ n < 2 ^ (8 * k.toNat))) := by
      intro h
      exact hfit (by simpa [fitB, wideB] using ⟨hk4, h⟩)
    clear hfit
    by_cases hn : n < 0
    · rcases hk4 with rfl | rfl | rfl | rfl
      · have t1 : decide (n < 0) = true := by simpa using hn
        clear hfit' hn
        go_enter Tryd.func49, Tryd.ntmps49
        go_wp2_with (go_at_call 46; refine BAD.out.mono ?_; rintro r w1 ⟨v, rfl, hE, m1⟩; have P1 := Lib.hid (WrPost.bad HW.out hE (fun x hx => by simp at hx; omega) m1); clear hE m1)
        go_ret
        rw [hf.out.1, hf.out.2]
        exact P1.out
      · have t1 : decide (n < 0) = true := by simpa using hn
        clear hfit' hn
        go_enter Tryd.func49, Tryd.ntmps49
        go_wp2_with (go_at_call 46; refine BAD.out.mono ?_; rintro r w1 ⟨v, rfl, hE, m1⟩; have P1 := Lib.hid (WrPost.bad HW.out hE (fun x hx => by simp at hx; omega) m1); clear hE m1)
        go_ret
        rw [hf.out.1, hf.out.2]
        exact P1.out
      · have t1 : decide (n < 0) = true := by simpa using hn
        clear hfit' hn
        go_enter Tryd.func49, Tryd.ntmps49
        go_wp2_with (go_at_call 46; refine BAD.out.mono ?_; rintro r w1 ⟨v, rfl, hE, m1⟩; have P1 := Lib.hid (WrPost.bad HW.out hE (fun x hx => by simp at hx; omega) m1); clear hE m1)
        go_ret
        rw [hf.out.1, hf.out.2]
        exact P1.out
      · have t1 : decide (n < 0) = true := by simpa using hn
        clear hfit' hn
        go_enter Tryd.func49, Tryd.ntmps49
        go_wp2_with (go_at_call 46; refine BAD.out.mono ?_; rintro r w1 ⟨v, rfl, hE, m1⟩; have P1 := Lib.hid (WrPost.bad HW.out hE (fun x hx => by simp at hx; omega) m1); clear hE m1)
        go_ret
        rw [hf.out.1, hf.out.2]
        exact P1.out
    · have hn0 : 0 ≤ n := by omega
      rcases hk4 with rfl | rfl | rfl | rfl
      · have t1 : decide (n < 0) = false := by simpa using hn
        have hm : 255 < n := by simp at hfit'; omega
        have t2 : decide ((255 : Int) < n) = true := by simpa using hm
        clear hfit' hn
        go_enter Tryd.func49, Tryd.ntmps49
        go_wp2_with (go_at_call 46; refine BAD.out.mono ?_; rintro r w1 ⟨v, rfl, hE, m1⟩; have P1 := Lib.hid (WrPost.bad HW.out hE (fun x hx => by simp at hx; omega) m1); clear hE m1)
        go_ret
        rw [hf.out.1, hf.out.2]
        exact P1.out
      · have t1 : decide (n < 0) = false := by simpa using hn
        have hm : 65535 < n := by simp at hfit'; omega
        have t2 : decide ((65535 : Int) < n) = true := by simpa using hm
        clear hfit' hn
        go_enter Tryd.func49, Tryd.ntmps49
        go_wp2_with (go_at_call 46; refine BAD.out.mono ?_; rintro r w1 ⟨v, rfl, hE, m1⟩; have P1 := Lib.hid (WrPost.bad HW.out hE (fun x hx => by simp at hx; omega) m1); clear hE m1)
        go_ret
        rw [hf.out.1, hf.out.2]
        exact P1.out
      · have t1 : decide (n < 0) = false := by simpa using hn
        have hm : 4294967295 < n := by simp at hfit'; omega
        have t2 : decide ((4294967295 : Int) < n) = true := by simpa using hm
        clear hfit' hn
        go_enter Tryd.func49, Tryd.ntmps49
        go_wp2_with (go_at_call 46; refine BAD.out.mono ?_; rintro r w1 ⟨v, rfl, hE, m1⟩; have P1 := Lib.hid (WrPost.bad HW.out hE (fun x hx => by simp at hx; omega) m1); clear hE m1)
        go_ret
        rw [hf.out.1, hf.out.2]
        exact P1.out
      · exact absurd ⟨hn0, .inl rfl⟩ hfit'
theorem text_yes {s : ByteArray} (h : s.size ≤ 1024) : textL s = [] ∧ ∀ bs, textB bs s = bs ++ leB s.size 2 ++ s.data.toList := by simp [textL, textB, h]
theorem text_no {s : ByteArray} (h : ¬ s.size ≤ 1024) : textL s = [11] ∧ ∀ bs, textB bs s = bs := by simp [textL, textB, h]
set_option maxRecDepth 100000 in
set_option maxHeartbeats 4000000 in
theorem wtext_calls (w : World) (b : Nat) (bs : List UInt8) (F : List Nat) (s : ByteArray) (hW : Wtr w 144 b bs F) (hs : s.size ≤ 140737488351232) (hl : bs.length ≤ 400000) :
    Calls Tryd.prog 50 #[.pointer (some ⟨b, 0, none⟩), .string s] w (WrPost w 144 b F (textL s) (textB bs s)) := by
  have HW := Lib.hid hW
  by_cases h : s.size ≤ 1024
  · have hf := Lib.hid (text_yes h)
    have t1 : decide ((1024 : Int) < (s.size : Int)) = false := by simp; omega
    have P := Lib.hid (put_calls w b bs F s.size 2 hW (by omega) (by omega) (by omega))
    clear hW
    go_enter Tryd.func50, Tryd.ntmps50
    go_wp2_with fail
    refine P.out.mono ?_
    rintro r w1 ⟨rfl, F1, hW1, hG1⟩
    obtain ⟨v, hA, ho, hg⟩ := hW1.ex
    have c0 := hA.cell 0 (by omega)
    have hlen : (bs ++ leB s.size 2).length ≤ 500000 := by simp [leB_length]; omega
    obtain ⟨b1, hb1⟩ : ∃ b1, b1 = bs ++ leB s.size 2 := ⟨_, rfl⟩
    have HB1 := Lib.hid hb1
    have HG1 := Lib.hid hG1
    have HA := Lib.hid hA
    have HGG := Lib.hid hg
    rw [← hb1] at ho hlen hW1
    have HW1 := Lib.hid hW1
    clear hW1 hG1 hA hb1 hg
    go_wp2_with (
      at_builtin
      refine appS 0 80 9 5 Tryd.underlying80 Tryd.underlying9 u8_info rfl _ _ rfl v _ _ rfl ho s rfl (by omega) (by omega) (Nat.zero_le _) ?_
      intro v' w2 ho2 m2 hv2
      have hbn : b ∉ v.ownBlock.toList := fun hx => (HGG.out b (by simpa using hx)).2 rfl
      obtain ⟨A8, cap8, rfl, _, _, _⟩ := (own_slA ho2).ex
      have hA2 := HA.out.mod m2 hbn
      have c2 := hA2.cell 0 (by omega)
      have f2 := hA2.free 0
      have ST := Lib.hid (HW1.out.stored HA.out HGG.out m2 ho2 (bs' := b1 ++ s.data.toList) (by first | (simp; done) | (simp; rfl)) (by rw [strCells_u8]; simp) (fun g e => by
        rcases hv2 with h1 | h1
        · left; rw [← h1]; exact e
        · right; rw [h1] at e; simp at e; omega))
      clear hA2 ho2 m2 ho hbn)
    go_ret
    obtain ⟨F2, hW2, hG2⟩ := ST.out
    rw [hf.out.1, hf.out.2, ← HB1.out]
    exact WrPost.good hW2 (HG1.out.trans hG2)
  · have hf := Lib.hid (text_no h)
    obtain ⟨v, hA, ho, _⟩ := hW.ex
    have c0 := hA.cell 0 (by omega)
    obtain ⟨A9, cap9, rfl, hc9, hc9', _⟩ := (own_slA ho).ex
    have HC := Lib.hid hc9'
    have BAD := Lib.hid (wrapE_calls w 11 bs.length .nilIface [] [] (by omega) .nil)
    have t1 : decide ((1024 : Int) < (s.size : Int)) = true := by simp; omega
    clear hA ho hc9' hW
    go_enter Tryd.func50, Tryd.ntmps50
    go_wp2_with (go_at_call 46; refine BAD.out.mono ?_; rintro r w1 ⟨v, rfl, hE, m1⟩; have P1 := Lib.hid (WrPost.bad HW.out hE (fun x hx => by simp at hx; omega) m1); clear hE m1)
    go_ret
    rw [hf.out.1, hf.out.2]
    exact P1.out
end Go.Proofs.YtphcoenooinmfaaDoor
