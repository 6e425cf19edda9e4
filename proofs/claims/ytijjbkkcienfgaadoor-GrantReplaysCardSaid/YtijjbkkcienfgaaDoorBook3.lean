/- What the document's Sweep and NewBook, the comparing of two lists of numbers, and the trial of a book come to. No condition beyond what stands in each. -/
import Derived.Test.YtijjbkkcienfgaaDoorProg
import Derived.Test.YtijjbkkcienfgaaDoorLib
import Derived.Test.YtijjbkkcienfgaaDoorBook
import Derived.Test.YtijjbkkcienfgaaDoorBook2
import Derived.Laws.MakeOwn
namespace Go.Proofs.YtijjbkkcienfgaaDoor
open Go.RowKit
set_option linter.unusedVariables false
set_option linter.unusedSimpArgs false
attribute [local go_sem ↓] Go.wp_at_zero Go.wp_at_succ

/-- What the document's Sweep tells, and leaves. -/
def RSweepPost (w : World) (b gT gS gD cap : Nat) (u s : Nat → Int) (d : Nat → Bool) (now : Int) (e : Ending) (w' : World) : Prop :=
  ∃ v, e = .returned v ∧ w'.ownsRow w.heap.size 3 1 v (swL u d now 8).length (intsOf (swL u d now 8)) ∧ RBk w' b gT gS gD cap u s (swD u d now 8) ∧ Mod [gD] w w'

set_option maxHeartbeats 1000000 in
theorem rbSweep_calls (w : World) (b gT gS gD cap : Nat) (u s : Nat → Int) (d : Nat → Bool) (now : Int) (h : RBk w b gT gS gD cap u s d) :
    Calls Tryd.prog 45 #[.pointer (some ⟨b, 0, none⟩), .int .i64 now] w (RSweepPost w b gT gS gD cap u s d now) := by
  have hb := h.arr.lt
  have hbT := h.rT.lt
  have hbS := h.rS.lt
  have hbD := h.rD.lt
  go_enter Tryd.func45, Tryd.ntmps45
  go_wp2
  go_loopw [6, 5] (fun i v wr => ∃ k : Nat, k ≤ 8 ∧ i = .int .i64 k ∧ wr.ownsRow w.heap.size 3 1 v (swL u d now k).length (intsOf (swL u d now k)) ∧ RBk wr b gT gS gD cap u s (swD u d now k) ∧ Mod [gD] w wr) (fun i _ _ => 8 - (intOf i).toNat)
  case atStart =>
    refine ⟨0, by omega, rfl, ?_, by rw [swD_zero]; exact h.alloc _, (Mod.refl _ _).alloc _⟩
    exact ⟨rfl, .inr ⟨w.heap.size, 0, #[], rfl, Nat.le_refl _, by show (w.heap.push _)[w.heap.size]? = _; simp, Nat.le_refl _, Nat.zero_le _, rfl, rfl⟩⟩
  case round =>
    obtain ⟨k, hk, rfl, ho, hB, hm⟩ := hrel
    by_cases hlt : k < 8
    · have c0 := hB.c0
      have c2 := hB.c2
      have cd := hB.rD.cell k hlt
      have cu := hB.rT.cell k hlt
      rw [swD_at] at cd
      have hlen := swL_len u d now k
      have fr := hB.rD.free k
      have hk1 : (k : Int) < 8 := by omega
      have hsz := hm.size
      by_cases hs : swB u d now k = true
      · have HS := Lib.hid hs
        simp only [swB, Bool.and_eq_true, decide_eq_true_eq, Bool.not_eq_true'] at hs
        rw [hs.2] at cd
        have h1 := hs.1.1
        have h2 := hs.1.2
        clear hs
        have m1 : Mod [gD] wr (wr.setCell ⟨gD, k, none⟩ (.bool true)) := (Mod.refl _ _).setCell (by simp) _
        have ho1 : ((wr.setCell ⟨gD, k, none⟩ (.bool true)).alloc (.cells #[.int .i64 (k : Int)] 3)).ownsRow w.heap.size 3 1 u5 (swL u d now k).length (intsOf (swL u d now k)) :=
          own_mod ho (m1.alloc _) (fun q hq => by have := own_lt' ho q hq; simp; omega)
        have hc0 := new_cell1 (wr.setCell ⟨gD, k, none⟩ (.bool true)) (.int .i64 (k : Int)) 3 wr.heap.size (by simp)
        have hB1 := hB.setD k true
        rw [swD_yes HS.out] at hB1
        go_wp2_with (at_builtin; refine app1 w.heap.size 32 3 (.int .i64 0) 1 8 Tryd.underlying32 bk_info_int rfl (by omega) (by omega) rfl _ _ rfl u5 _ _ rfl ho1 wr.heap.size [.int .i64 (k : Int)] rfl rfl (news1 hc0) (by simp [Value.oneCell']) (by omega) (by simp; omega) ?_; intro g cap1 w1 ho2 hm2 hg hbg)
        have hgb : ∀ x, x < w.heap.size → x ∉ u5.ownBlock.toList := fun x hx e => by have := own_lt' ho x (by simpa using e); omega
        have hB2 := (hB1.alloc (.cells #[.int .i64 (k : Int)] 3)).mod hm2 (hgb _ hb) (hgb _ hbT) (hgb _ hbS) (hgb _ hbD)
        have hm3 : Mod [gD] w w1 := (hm.trans (m1.alloc _)).fresh hm2 (fun q hq => by have := own_lt' ho q (by simpa using hq); exact .inr (by omega))
        go_wp2
        go_roundw
        case rel =>
          have e1 : (swL u d now (k + 1)) = swL u d now k ++ [k] := by rw [swL_succ, if_pos HS.out]
          exact ⟨k + 1, by omega, by go_num, by rw [e1]; simpa [intsOf] using ho2, hB2, hm3⟩
        case measure => simp [intOf]; omega
      · have hs' : swB u d now k = false := by simpa using hs
        have fin : wr.ownsRow w.heap.size 3 1 u5 (swL u d now (k + 1)).length (intsOf (swL u d now (k + 1))) ∧ RBk wr b gT gS gD cap u s (swD u d now (k + 1)) := by
          rw [swL_succ, hs', ← swD_no hs']
          simpa using ⟨ho, hB⟩
        have F := Lib.hid fin
        clear fin hs
        by_cases h1 : 0 ≤ u k
        · by_cases h2 : u k < now
          · have h3 : d k = true := by simpa [swB, h1, h2] using hs'
            rw [h3] at cd
            clear hs'
            go_wp2
            go_roundw
            case rel => exact ⟨k + 1, by omega, by go_num, F.out.1, F.out.2, hm⟩
            case measure => simp [intOf]; omega
          · have hd2 : decide (u k < now) = false := by simpa using h2
            clear hs'
            go_wp2
            go_roundw
            case rel => exact ⟨k + 1, by omega, by go_num, F.out.1, F.out.2, hm⟩
            case measure => simp [intOf]; omega
        · have hd1 : decide (0 ≤ u k) = false := by simpa using h1
          clear hs'
          go_wp2
          go_roundw
          case rel => exact ⟨k + 1, by omega, by go_num, F.out.1, F.out.2, hm⟩
          case measure => simp [intOf]; omega
    · obtain rfl : k = 8 := by omega
      go_wp2
      go_ret
      exact ⟨u5, rfl, ho, hB, hm⟩

/-- Two lists of numbers that are one are the same. -/
theorem same16_calls (w : World) (v v' : Value) (n : Nat) (f : Nat → Nat → Value) (x : Nat → Int) (h : SlA w v n 1 f) (h' : SlA w v' n 1 f) (hx : ∀ i, i < n → f i 0 = .int .i64 (x i)) :
    Calls Tryd.prog 52 #[v, v'] w fun e w' => e = .returned (.bool true) ∧ ∃ k, w' = w.drewN k := by
  obtain ⟨A, cap, rfl, _, hcap, h1⟩ := h.ex
  obtain ⟨A', cap', rfl, _, hcap', h2⟩ := h'.ex
  have hm : n ≤ 9223372036854775807 := by unfold maxLen at hcap; omega
  go_enter Tryd.func52, Tryd.ntmps52
  go_wp2
  go_loopw [5] (fun i wr => ∃ k q : Nat, k ≤ n ∧ i = .int .i64 k ∧ wr = w.drewN q) (fun i _ => n - (intOf i).toNat)
  case atStart => exact ⟨0, 0, Nat.zero_le _, rfl, rfl⟩
  case round =>
    obtain ⟨k, q, hk, rfl, rfl⟩ := hrel
    by_cases hlt : k < n
    · obtain ⟨b, off, rfl, g1⟩ := h1 (by omega)
      obtain ⟨b', off', rfl, g2⟩ := h2 (by omega)
      have e1 := g1 k 0 hlt (by omega)
      have e2 := g2 k 0 hlt (by omega)
      rw [hx k hlt] at e1 e2
      simp only [Nat.mul_one, Nat.add_zero] at e1 e2
      have i0 : (0 : Int) ≤ (k : Int) := by omega
      have i1 : (k : Int) < (n : Int) := by omega
      clear g1 g2 h1 h2 h h' hx
      go_wp2_with fail
      go_quiet (fail)
      go_wp2
      go_roundw
      case rel => exact ⟨k + 1, q + nq, by omega, by go_num, rfl⟩
      case measure => simp [intOf]; omega
    · go_wp2
      go_ret
      exact ⟨rfl, q, rfl⟩

theorem ints_at (l : List Nat) (i : Nat) (h : i < l.length) : (intsOf l).getD (i * 1 + 0) undef = .int .i64 ((l.getD i 0 : Nat) : Int) := by
  simp [intsOf, List.getD_eq_getElem?_getD, List.getElem?_eq_getElem h]
/-- Two rows of the same numbers, one made behind the other. -/
theorem same16_after {w1 w2 : World} {B B' : Nat} {v v' : Value} {l : List Nat} {S : List Nat} (h : w1.ownsRow B 3 1 v l.length (intsOf l)) (h' : w2.ownsRow B' 3 1 v' l.length (intsOf l)) (m : Mod S w1 w2) (hs : ∀ x, x ∈ S → x < B) :
    Calls Tryd.prog 52 #[v, v'] w2 fun e w' => e = .returned (.bool true) ∧ ∃ k, w' = w2.drewN k :=
  same16_calls w2 v v' l.length _ (fun i => ((l.getD i 0 : Nat) : Int)) (own_slA (own_mod h m (fun k hk hn => by have := own_lt' h k hk; have := hs k hn; omega))) (own_slA h') (fun i hi => ints_at l i hi)
theorem rb_mk_ints : ∀ W : World, (Instr.makeSlice 32 (.int .i64 8) (.int .i64 8)).run Tryd.prog W = .ok (.slice (some ⟨W.heap.size, 0, none⟩) 8 8) (W.alloc (.cells #[.int .i64 0, .int .i64 0, .int .i64 0, .int .i64 0, .int .i64 0, .int .i64 0, .int .i64 0, .int .i64 0] 3)) := fun _ => by kernel_rfl
theorem rb_mk_bools : ∀ W : World, (Instr.makeSlice 73 (.int .i64 8) (.int .i64 8)).run Tryd.prog W = .ok (.slice (some ⟨W.heap.size, 0, none⟩) 8 8) (W.alloc (.cells #[.bool false, .bool false, .bool false, .bool false, .bool false, .bool false, .bool false, .bool false] 4)) := fun _ => by kernel_rfl
theorem arr_z8 (W : World) : Arr (W.alloc (.cells #[.int .i64 0, .int .i64 0, .int .i64 0, .int .i64 0, .int .i64 0, .int .i64 0, .int .i64 0, .int .i64 0] 3)) W.heap.size 3 8 (fun i => .int .i64 (s0 i)) :=
  Arr.new' _ _ _ 8 _ rfl fun i hi => by
    match i, hi with
    | 0, _ | 1, _ | 2, _ | 3, _ | 4, _ | 5, _ | 6, _ | 7, _ => rfl
theorem arr_f8 (W : World) : Arr (W.alloc (.cells #[.bool false, .bool false, .bool false, .bool false, .bool false, .bool false, .bool false, .bool false] 4)) W.heap.size 4 8 (fun i => .bool (d0 i)) :=
  Arr.new' _ _ _ 8 _ rfl fun i hi => by
    match i, hi with
    | 0, _ | 1, _ | 2, _ | 3, _ | 4, _ | 5, _ | 6, _ | 7, _ => rfl

def rbH0 (v : Value) (gS gD : Nat) (j : Nat) : Value := if j = 0 then v else if j = 1 then .slice (some ⟨gS, 0, none⟩) 8 8 else .slice (some ⟨gD, 0, none⟩) 8 8
/-- The document's book while its times are laid. -/
def RbMaking (w wr : World) (b gS gD k : Nat) (v : Value) : Prop :=
  Arr wr b 109 3 (rbH0 v gS gD) ∧ wr.ownsRow w.heap.size 3 1 v k (List.replicate k (.int .i64 (-1))) ∧ Arr wr gS 3 8 (fun i => .int .i64 (s0 i)) ∧ Arr wr gD 4 8 (fun i => .bool (d0 i)) ∧
  Mod [] w wr ∧ b ≠ gS ∧ b ≠ gD ∧ gS ≠ gD ∧ w.heap.size ≤ b ∧ w.heap.size ≤ gS ∧ w.heap.size ≤ gD ∧ (∀ q, v.ownBlock = some q → q ≠ b ∧ q ≠ gS ∧ q ≠ gD)

def RNewPost (w : World) (e : Ending) (w' : World) : Prop :=
  ∃ b gT gS gD cap, e = .returned (.pointer (some ⟨b, 0, none⟩)) ∧ RBk w' b gT gS gD cap u0 s0 d0 ∧ Mod [] w w' ∧ w.heap.size ≤ b ∧ w.heap.size ≤ gT ∧ w.heap.size ≤ gS ∧ w.heap.size ≤ gD

theorem rbMaking_end {w wr : World} {b gS gD : Nat} {v : Value} (h : RbMaking w wr b gS gD 8 v) : RNewPost w (.returned (.pointer (some ⟨b, 0, none⟩))) wr := by
  obtain ⟨h1, h2, h3, h4, h5, h6, h7, h8, h9, h10, h11, h12⟩ := h
  obtain ⟨g, cap, rfl, hg, hc, hm, ha⟩ := own_arr h2 (by omega)
  have hq := h12 g rfl
  refine ⟨b, g, gS, gD, cap, rfl, ⟨h1, ha.congr fun i hi => ?_, h3, h4, fun e => hq.1 e.symm, h6, h7, hq.2.1, hq.2.2, h8, hc, fun i => by unfold u0; omega⟩, h5, h9, hg, h10, h11⟩
  have : (List.replicate 8 (Value.int .i64 (-1))).getD i undef = .int .i64 (-1) := by rw [List.getD_eq_getElem?_getD, List.getElem?_replicate, if_pos (by omega)]; rfl
  exact this

set_option maxHeartbeats 1000000 in
theorem rbNew_loop (w wr : World) (b gS gD k : Nat) (v : Value) (hk : k < 8) (h : RbMaking w wr b gS gD k v) : ∀ g cap w1,
    w1.ownsRow w.heap.size 3 1 (.slice (some ⟨g, 0, none⟩) (k + 1) cap) (k + 1) (List.replicate k (.int .i64 (-1)) ++ [.int .i64 (-1)]) → Mod v.ownBlock.toList (wr.alloc (.cells #[.int .i64 (-1)] 3)) w1 →
    (v.ownBlock = some g ∨ g = (wr.alloc (.cells #[.int .i64 (-1)] 3)).heap.size) → w.heap.size ≤ g →
    Arr w1 b 109 3 (rbH0 v gS gD) ∧ RbMaking w (w1.setCell ⟨b, 0, none⟩ (.slice (some ⟨g, 0, none⟩) (k + 1) cap)) b gS gD (k + 1) (.slice (some ⟨g, 0, none⟩) (k + 1) cap) := by
  intro g cap w1 o1 m1 hg hb
  obtain ⟨h1, h2, h3, h4, h5, h6, h7, h8, h9, h10, h11, h12⟩ := h
  have l1 := h1.lt
  have l3 := h3.lt
  have l4 := h4.lt
  have hsz := h5.size
  have hnb : ∀ x, (x = b ∨ x = gS ∨ x = gD) → x ∉ v.ownBlock.toList := fun x hx e => by
    have := h12 x (by simpa using e)
    rcases hx with rfl | rfl | rfl <;> omega
  have a1 := (h1.alloc (.cells #[.int .i64 (-1)] 3)).mod m1 (hnb b (by simp))
  have a3 := (h3.alloc (.cells #[.int .i64 (-1)] 3)).mod m1 (hnb gS (by simp))
  have a4 := (h4.alloc (.cells #[.int .i64 (-1)] 3)).mod m1 (hnb gD (by simp))
  have hgn : g ≠ b ∧ g ≠ gS ∧ g ≠ gD := by
    rcases hg with hg | hg
    · exact h12 g hg
    · simp at hg; omega
  refine ⟨a1, (a1.set 0 _).congr fun j hj => ?_, ?_, a3.other h6 _, a4.other h7 _, ?_, h6, h7, h8, h9, h10, h11, ?_⟩
  · unfold rbH0
    by_cases e : j = 0 <;> simp [e]
  · rw [List.replicate_succ']
    exact own_mod o1 (S := [b]) ((Mod.refl _ _).setCell (by simp) _) (fun q hq => by cases hq; simp [hgn.1])
  · exact ((h5.alloc _).fresh m1 (fun q hq => .inr (own_lt' h2 q (by simpa using hq)).1)).setCell (.inr h9) _
  · intro q hq
    cases hq
    exact hgn

theorem rbStart1 (w : World) : RbMaking w ((((w.alloc (.cells #[.int .i64 0, .int .i64 0, .int .i64 0, .int .i64 0, .int .i64 0, .int .i64 0, .int .i64 0, .int .i64 0] 3)).alloc (.cells #[.bool false, .bool false, .bool false, .bool false, .bool false, .bool false, .bool false, .bool false] 4)).alloc (.cells #[.slice none 0 0, .slice (some ⟨w.heap.size, 0, none⟩) 8 8, .slice (some ⟨w.heap.size + 1, 0, none⟩) 8 8] 109)).drew) (w.heap.size + 1 + 1) w.heap.size (w.heap.size + 1) 0 (.slice none 0 0) := by
  have e1 : (w.alloc (.cells #[.int .i64 0, .int .i64 0, .int .i64 0, .int .i64 0, .int .i64 0, .int .i64 0, .int .i64 0, .int .i64 0] 3)).heap.size = w.heap.size + 1 := by simp
  have e2 : ((w.alloc (.cells #[.int .i64 0, .int .i64 0, .int .i64 0, .int .i64 0, .int .i64 0, .int .i64 0, .int .i64 0, .int .i64 0] 3)).alloc (.cells #[.bool false, .bool false, .bool false, .bool false, .bool false, .bool false, .bool false, .bool false] 4)).heap.size = w.heap.size + 1 + 1 := by simp
  have a1 := arr_z8 w
  have a2 := arr_f8 (w.alloc (.cells #[.int .i64 0, .int .i64 0, .int .i64 0, .int .i64 0, .int .i64 0, .int .i64 0, .int .i64 0, .int .i64 0] 3))
  rw [e1] at a2
  have a3 := Arr.new' ((w.alloc (.cells #[.int .i64 0, .int .i64 0, .int .i64 0, .int .i64 0, .int .i64 0, .int .i64 0, .int .i64 0, .int .i64 0] 3)).alloc (.cells #[.bool false, .bool false, .bool false, .bool false, .bool false, .bool false, .bool false, .bool false] 4)) #[.slice none 0 0, .slice (some ⟨w.heap.size, 0, none⟩) 8 8, .slice (some ⟨w.heap.size + 1, 0, none⟩) 8 8] 109 3 (rbH0 (.slice none 0 0) w.heap.size (w.heap.size + 1)) rfl (fun i hi => by
    match i, hi with
    | 0, _ | 1, _ | 2, _ => rfl)
  rw [e2] at a3
  exact ⟨a3.drew, own_nil _ _ _ _, ((a1.alloc _).alloc _).drew, (a2.alloc _).drew, (((((Mod.refl _ _).alloc _).alloc _).alloc _).drew), by omega, by omega, by omega, by omega, by omega, by omega, fun q hq => by cases hq⟩
theorem rbStart2 (w : World) : RbMaking w ((((w.alloc (.cells #[.bool false, .bool false, .bool false, .bool false, .bool false, .bool false, .bool false, .bool false] 4)).alloc (.cells #[.int .i64 0, .int .i64 0, .int .i64 0, .int .i64 0, .int .i64 0, .int .i64 0, .int .i64 0, .int .i64 0] 3)).alloc (.cells #[.slice none 0 0, .slice (some ⟨w.heap.size + 1, 0, none⟩) 8 8, .slice (some ⟨w.heap.size, 0, none⟩) 8 8] 109)).drew) (w.heap.size + 1 + 1) (w.heap.size + 1) w.heap.size 0 (.slice none 0 0) := by
  have e1 : (w.alloc (.cells #[.bool false, .bool false, .bool false, .bool false, .bool false, .bool false, .bool false, .bool false] 4)).heap.size = w.heap.size + 1 := by simp
  have e2 : ((w.alloc (.cells #[.bool false, .bool false, .bool false, .bool false, .bool false, .bool false, .bool false, .bool false] 4)).alloc (.cells #[.int .i64 0, .int .i64 0, .int .i64 0, .int .i64 0, .int .i64 0, .int .i64 0, .int .i64 0, .int .i64 0] 3)).heap.size = w.heap.size + 1 + 1 := by simp
  have a1 := arr_f8 w
  have a2 := arr_z8 (w.alloc (.cells #[.bool false, .bool false, .bool false, .bool false, .bool false, .bool false, .bool false, .bool false] 4))
  rw [e1] at a2
  have a3 := Arr.new' ((w.alloc (.cells #[.bool false, .bool false, .bool false, .bool false, .bool false, .bool false, .bool false, .bool false] 4)).alloc (.cells #[.int .i64 0, .int .i64 0, .int .i64 0, .int .i64 0, .int .i64 0, .int .i64 0, .int .i64 0, .int .i64 0] 3)) #[.slice none 0 0, .slice (some ⟨w.heap.size + 1, 0, none⟩) 8 8, .slice (some ⟨w.heap.size, 0, none⟩) 8 8] 109 3 (rbH0 (.slice none 0 0) (w.heap.size + 1) w.heap.size) rfl (fun i hi => by
    match i, hi with
    | 0, _ | 1, _ | 2, _ => rfl)
  rw [e2] at a3
  exact ⟨a3.drew, own_nil _ _ _ _, (a2.alloc _).drew, ((a1.alloc _).alloc _).drew, (((((Mod.refl _ _).alloc _).alloc _).alloc _).drew), by omega, by omega, by omega, by omega, by omega, by omega, fun q hq => by cases hq⟩

set_option maxHeartbeats 2000000 in
theorem rbNew_calls (w : World) : Calls Tryd.prog 39 #[] w (RNewPost w) := by
  have k1 := rb_mk_ints
  have k2 := rb_mk_bools
  go_enter Tryd.func39, Tryd.ntmps39
  go_wp2
  go_region
  all_goals go_wp2
  all_goals
    go_loopw [2] (fun i wr => ∃ (k gS gD : Nat) (v : Value), k ≤ 8 ∧ i = .int .i64 k ∧ RbMaking w wr (w.heap.size + 1 + 1) gS gD k v) (fun i _ => 8 - (intOf i).toNat)
    case atStart => first | exact ⟨0, _, _, _, by omega, rfl, rbStart1 w⟩ | exact ⟨0, _, _, _, by omega, rfl, rbStart2 w⟩
    case round =>
      obtain ⟨k, gS, gD, v, hk, rfl, H⟩ := hrel
      have c0 := H.1.cell 0 (by omega)
      simp only [rbH0, if_true] at c0
      by_cases hlt : k < 8
      · have hk1 : (k : Int) < 8 := by omega
        have ho := H.2.1
        have hN := rbNew_loop w wr _ gS gD k v hlt H
        have hN' := Lib.hid hN
        have l1 := H.1.lt
        have ho1 : (wr.alloc (.cells #[.int .i64 (-1)] 3)).ownsRow w.heap.size 3 1 v k (List.replicate k (.int .i64 (-1))) := own_mod ho (S := []) ((Mod.refl _ _).alloc _) (by simp)
        have hc0 := new_cell1 wr (.int .i64 (-1)) 3 wr.heap.size rfl
        have hsz := H.2.2.2.2.1.size
        clear hN ho
        go_wp2_with (at_builtin; refine app1 w.heap.size 32 3 (.int .i64 0) 1 8 Tryd.underlying32 bk_info_int rfl (by omega) (by omega) rfl _ _ rfl v _ _ rfl ho1 wr.heap.size [.int .i64 (-1)] rfl rfl (news1 hc0) (by simp [Value.oneCell']) (by omega) (by simp; omega) ?_; intro g cap1 w1 ho2 hm2 hg hbg; obtain ⟨ha, hR⟩ := hN'.out g cap1 w1 ho2 hm2 hg hbg; have hca := ha.cell 0 (by omega); have hfr := ha.free 0)
        go_roundw
        case rel => exact ⟨k + 1, gS, gD, _, by omega, by go_num, hR⟩
        case measure => simp [intOf]; omega
      · obtain rfl : k = 8 := by omega
        have E := Lib.hid (rbMaking_end H)
        go_wp2
        go_ret
        exact E.out

end Go.Proofs.YtijjbkkcienfgaaDoor
