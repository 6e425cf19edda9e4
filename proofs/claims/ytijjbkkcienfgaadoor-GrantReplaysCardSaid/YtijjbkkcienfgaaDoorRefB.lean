/- The document's table in memory; what mode and set of it come to. No condition beyond what stands in each. -/
import Derived.Test.YtijjbkkcienfgaaDoorRefA
import Derived.Test.YtijjbkkcienfgaaDoorRefBP
import Derived.Deep.DeepCutAuto
namespace Go.Proofs.YtijjbkkcienfgaaDoor
open Go.RowKit
set_option linter.unusedVariables false
set_option linter.unusedSimpArgs false
attribute [local go_sem ↓] Go.wp_at_zero Go.wp_at_succ

/-- The document's table at block r: a list of holds, in blocks from base on. -/
structure RTab (w : World) (base r : Nat) (t : Nat → Nat → Nat) : Prop where
  ex : ∃ v, Boxed w r 64 v ∧ w.ownsRow base 39 4 v (listL t).length (hcells (listL t))
  bd : ∀ c k, t c k ≤ 2
theorem own_holds' {w : World} {base : Nat} {e : TypeId} {v : Value} {L : List HoldT} (h : w.ownsRow base e 4 v L.length (hcells L)) :
    ∃ p cap, v = .slice p L.length cap ∧ L.length ≤ cap ∧ cap ≤ 9223372036854775807 ∧ (0 < L.length → ∃ g, p = some ⟨g, 0, none⟩ ∧ base ≤ g ∧ g < w.heap.size ∧ ∀ i x, L[i]? = some x →
      w.cell? ⟨g, i * 4, none⟩ = some (.int .i64 x.1) ∧ w.cell? ⟨g, i * 4 + 1, none⟩ = some (.int .i64 x.2.1) ∧ w.cell? ⟨g, i * 4 + 2, none⟩ = some (.int .i64 x.2.2.1) ∧ w.cell? ⟨g, i * 4 + 3, none⟩ = some (.int .i64 x.2.2.2)) := by
  rcases Nat.eq_zero_or_pos L.length with h0 | h0
  · obtain ⟨_, h2 | ⟨g, cap, cur, rfl, hg, hh, h1, h2, h3, h4⟩⟩ := h
    · exact ⟨none, 0, by rw [h2.1, h0], by omega, by omega, fun h => absurd h (by omega)⟩
    · unfold maxLen at h2
      exact ⟨_, cap, rfl, h1, by omega, fun h => absurd h (by omega)⟩
  · have hb : ∃ g cap, v = .slice (some ⟨g, 0, none⟩) L.length cap ∧ L.length ≤ cap ∧ cap ≤ 9223372036854775807 := by
      obtain ⟨_, h2 | ⟨g, cap, cur, rfl, hg, hh, h1, h2, h3, h4⟩⟩ := h
      · have := h2.2; omega
      · unfold maxLen at h2
        exact ⟨g, cap, rfl, h1, by omega⟩
    obtain ⟨g, cap, rfl, h1, h2⟩ := hb
    obtain ⟨g', cap', he, h3, h4, h5⟩ := own_hold h h0
    cases he
    exact ⟨_, cap, rfl, h1, h2, fun _ => ⟨g, rfl, h3, h4, h5⟩⟩
theorem RTab.mod {w w' : World} {base r : Nat} {t : Nat → Nat → Nat} (h : RTab w base r t) {S : List Nat} (m : Mod S w w') (hr : r ∉ S) (hS : ∀ s, s ∈ S → s < base ∨ w.heap.size ≤ s ∨ ∃ cs T, w.heap[s]? = some (.cells cs T (0, 0)) ∧ T ≠ 39) : RTab w' base r t := by
  obtain ⟨⟨v, h1, h2⟩, hb⟩ := h
  refine ⟨⟨v, boxMod h1 m hr, own_mod h2 m (fun k hk hs => ?_)⟩, hb⟩
  have hk2 := own_lt' h2 k hk
  rcases hS k hs with h3 | h3 | ⟨cs, T, h3, h4⟩
  · omega
  · omega
  · exact h4 (own_type h2 k (by simpa using hk) cs T h3)
theorem RTab.same {w w' : World} {base r : Nat} {t : Nat → Nat → Nat} (h : RTab w base r t) (m : Mod [] w w') : RTab w' base r t := h.mod m (by simp) (by simp)
/-- The other table's changes leave this one as it was. -/
theorem RTab.modT {w w' : World} {base r bT : Nat} {t t' : Nat → Nat → Nat} (h : RTab w base r t) (hT : Tb w bT t') (m : Mod [bT] w w') : RTab w' base r t := by
  obtain ⟨cs, h1, _, _⟩ := hT.arr
  obtain ⟨v, h2, _⟩ := h.ex
  refine h.mod m (fun e => ?_) (fun s hs => .inr (.inr ?_))
  · have e' : r = bT := by simpa using e
    subst e'
    have := h1.symm.trans h2
    simp at this
  · have e' : s = bT := by simpa using hs
    subst e'
    exact ⟨cs, _, h1, by decide⟩
theorem RTab.ne {w : World} {base r bT : Nat} {t t' : Nat → Nat → Nat} (h : RTab w base r t) (hT : Tb w bT t') : r ≠ bT := by
  obtain ⟨cs, h1, _, _⟩ := hT.arr
  obtain ⟨v, h2, _⟩ := h.ex
  rintro rfl
  have := h1.symm.trans h2
  simp at this

set_option maxRecDepth 100000 in
set_option maxHeartbeats 2000000 in
theorem mode_calls (w : World) (base r : Nat) (t : Nat → Nat → Nat) (c k : Int) (h : RTab w base r t) :
    Calls Tryd.prog 82 #[.pointer (some ⟨r, 0, none⟩), .int .i64 c, .int .i64 k] w fun e w' => e = .returned (.int .i64 (rmode t c k)) ∧ Mod [] w w' := by
  obtain ⟨v, hbx, ho⟩ := h.ex
  obtain ⟨p, cap, rfl, hn, hcap, hcell⟩ := own_holds' ho
  have hc0 : w.cell? ⟨r, 0, none⟩ = some (.slice p (listL t).length cap) := hbx.cell
  obtain ⟨L, hL⟩ : ∃ L, L = listL t := ⟨_, rfl⟩
  rw [← hL] at hc0 hcell hn
  have HL := Lib.hid hL
  obtain ⟨n, hN⟩ : ∃ n, n = L.length := ⟨_, rfl⟩
  rw [← hN] at hc0 hcell hn
  have HN := Lib.hid hN
  clear hN hL ho hbx h
  go_enter Tryd.func82, Tryd.ntmps82
  go_wp2
  go_loopw [7] (fun i wr => ∃ j : Nat, j ≤ n ∧ i = .int .i64 j ∧ Mod [] w wr ∧ Hid (∀ q x, q < j → L[q]? = some x → ¬ hits x c k)) (fun i _ => n - (intOf i).toNat)
  case atStart => exact ⟨0, Nat.zero_le _, rfl, Mod.refl _ _, Lib.hid (fun q x hq => absurd hq (by omega))⟩
  case round =>
    obtain ⟨j, hj, rfl, hM, HQ⟩ := hrel
    have z0 := hM.cell' hc0 (by simp)
    by_cases hlt : j < n
    · obtain ⟨g, rfl, hg1, hg2, hx⟩ := hcell (by omega)
      have hjL : j < L.length := by rw [← HN.out]; exact hlt
      obtain ⟨x, hh⟩ : ∃ h, L[j]? = some h := ⟨_, List.getElem?_eq_getElem hjL⟩
      obtain ⟨y0, y1, y2, y3⟩ := hx j _ hh
      replace y0 := hM.cell' y0 (by simp)
      replace y1 := hM.cell' y1 (by simp)
      replace y2 := hM.cell' y2 (by simp)
      replace y3 := hM.cell' y3 (by simp)
      have hgl := World.block_lt_of_cell? wr _ y0
      have i0 : (0 : Int) ≤ (j : Int) := by omega
      have i1 : (j : Int) < (n : Int) := by omega
      have hbl := World.block_lt_of_cell? wr _ z0
      have HH := Lib.hid hh
      have HM := Lib.hid (hM.alloc (.cells #[.int .i64 x.1, .int .i64 x.2.1, .int .i64 x.2.2.1, .int .i64 x.2.2.2] 39))
      have HR := Lib.hid (fun (hit : hits x c k) => rmode_hit (by rw [← HL.out]; exact List.mem_of_getElem? HH.out) hit : hits x c k → rmode t c k = (x.2.2.2 : Nat))
      have HNX := Lib.hid (fun (hit : ¬ hits x c k) => (fun q y hq hy => by
        rcases Nat.lt_or_ge q j with h | h
        · exact HQ.out q y h hy
        · obtain rfl : q = j := by omega
          rw [HH.out] at hy
          cases hy
          exact hit : ∀ q y, q < j + 1 → L[q]? = some y → ¬ hits y c k))
      clear hx hh hM HQ hcell
      by_cases e1 : (x.2.2.1 : Int) = c
      · have e1' : ((x.2.2.1 : Int) == c) = true := by simpa using e1
        by_cases e2 : (x.1 : Int) ≤ k
        · by_cases e3 : k < (x.2.1 : Int)
          · have HV := Lib.hid (HR.out ⟨e1, e2, e3⟩)
            clear e1
            go_wp2
            go_ret
            exact ⟨by rw [HV.out]; rfl, HM.out⟩
          · have e3' : decide (k < (x.2.1 : Int)) = false := by simpa using e3
            have HV := Lib.hid (HNX.out (fun h => e3 h.2.2))
            clear e1 e3
            go_wp2
            go_roundw
            case rel => exact ⟨j + 1, by omega, by go_num, HM.out, Lib.hid HV.out⟩
            case measure => simp [intOf]; omega
        · have e2' : decide ((x.1 : Int) ≤ k) = false := by simpa using e2
          have HV := Lib.hid (HNX.out (fun h => e2 h.2.1))
          clear e1 e2
          go_wp2
          go_roundw
          case rel => exact ⟨j + 1, by omega, by go_num, HM.out, Lib.hid HV.out⟩
          case measure => simp [intOf]; omega
      · have e1' : ((x.2.2.1 : Int) == c) = false := by simpa using e1
        have HV := Lib.hid (HNX.out (fun h => e1 h.1))
        clear e1
        go_wp2
        go_roundw
        case rel => exact ⟨j + 1, by omega, by go_num, HM.out, Lib.hid HV.out⟩
        case measure => simp [intOf]; omega
    · obtain rfl : j = n := by omega
      have hlt' : decide (j < j) = false := by simp
      have HV := Lib.hid (rmode_miss (t := t) (c := c) (k := k) (fun x hx => by
        rw [← HL.out] at hx
        obtain ⟨q, hq⟩ := List.getElem?_of_mem hx
        have hq2 : q < L.length := by
          rcases Nat.lt_or_ge q L.length with h | h
          · exact h
          · rw [List.getElem?_eq_none h] at hq; cases hq
        exact HQ.out q x (by rw [HN.out]; exact hq2) hq))
      go_wp2
      go_ret
      exact ⟨by rw [HV.out]; rfl, hM⟩
end Go.Proofs.YtijjbkkcienfgaaDoor
