/- The document's table again: what its calls come to, told of rows that lie in none of a list of blocks. No condition beyond what stands in each. (Written by wip/tools/genRf.py.) The document's service in memory; is a hold free? What waits is served. No condition beyond what stands in each. -/
import Derived.Test.YtijjbkkcienfgaaDoorRefF
import Derived.Deep.DeepCutAuto
import Derived.Test.YtijjbkkcienfgaaDoorGr24
namespace Go.Proofs.YtijjbkkcienfgaaDoor.Rf
open Go.RowKit
set_option linter.unusedVariables false
set_option linter.unusedSimpArgs false
attribute [local go_sem ↓] Go.wp_at_zero Go.wp_at_succ

/-- The document's table at block r: a list of holds, in no block of 'base'. -/
structure RTab (w : World) (base : List Nat) (r : Nat) (t : Nat → Nat → Nat) : Prop where
  ex : ∃ v, Boxed w r 64 v ∧ w.ownsRow 0 39 4 v (listL t).length (hcells (listL t)) ∧ ∀ k, v.ownBlock = some k → k ∉ base
  bd : ∀ c k, t c k ≤ 2
theorem RTab.mod {w w' : World} {base : List Nat} {r : Nat} {t : Nat → Nat → Nat} (h : RTab w base r t) {S : List Nat} (m : Mod S w w') (hr : r ∉ S) (hS : ∀ s, s ∈ S → s ∈ base ∨ w.heap.size ≤ s ∨ ∃ cs T, w.heap[s]? = some (.cells cs T (0, 0)) ∧ T ≠ 39) : RTab w' base r t := by
  obtain ⟨⟨v, h1, h2, hx⟩, hb⟩ := h
  refine ⟨⟨v, boxMod h1 m hr, own_mod h2 m (fun k hk hs => ?_), hx⟩, hb⟩
  have hk2 := own_lt' h2 k hk
  rcases hS k hs with h3 | h3 | ⟨cs, T, h3, h4⟩
  · exact hx k hk h3
  · omega
  · exact h4 (own_type h2 k (by simpa using hk) cs T h3)
theorem RTab.same {w w' : World} {base : List Nat} {r : Nat} {t : Nat → Nat → Nat} (h : RTab w base r t) (m : Mod [] w w') : RTab w' base r t := h.mod m (by simp) (by simp)
/-- The other table's changes leave this one as it was. -/
theorem RTab.modT {w w' : World} {base : List Nat} {r bT : Nat} {t t' : Nat → Nat → Nat} (h : RTab w base r t) (hT : Tb w bT t') (m : Mod [bT] w w') : RTab w' base r t := by
  obtain ⟨cs, h1, _, _⟩ := hT.arr
  obtain ⟨v, h2, _⟩ := h.ex
  refine h.mod m (fun e => ?_) (fun s hs => .inr (.inr ?_))
  · have e' : r = bT := by simpa using e
    subst e'
    have := h1.symm.trans h2
    simp at this
  · have e' : s = bT := by simpa using hs
    subst e'
    exact ⟨cs, _, h1, by decide⟩
theorem RTab.ne {w : World} {base : List Nat} {r bT : Nat} {t t' : Nat → Nat → Nat} (h : RTab w base r t) (hT : Tb w bT t') : r ≠ bT := by
  obtain ⟨cs, h1, _, _⟩ := hT.arr
  obtain ⟨v, h2, _⟩ := h.ex
  rintro rfl
  have := h1.symm.trans h2
  simp at this

set_option maxRecDepth 100000 in
set_option maxHeartbeats 2000000 in
theorem mode_calls (w : World) (base : List Nat) (r : Nat) (t : Nat → Nat → Nat) (c k : Int) (h : RTab w base r t) :
    Calls Tryd.prog 82 #[.pointer (some ⟨r, 0, none⟩), .int .i64 c, .int .i64 k] w fun e w' => e = .returned (.int .i64 (rmode t c k)) ∧ Mod [] w w' := by
  obtain ⟨v, hbx, ho, -⟩ := h.ex
  obtain ⟨p, cap, rfl, hn, hcap, hcell⟩ := own_holds' ho
  have hc0 : w.cell? ⟨r, 0, none⟩ = some (.slice p (listL t).length cap) := hbx.cell
  obtain ⟨L, hL⟩ : ∃ L, L = listL t := ⟨_, rfl⟩
  rw [← hL] at hc0 hcell hn
  have HL := Lib.hid hL
  obtain ⟨n, hN⟩ : ∃ n, n = L.length := ⟨_, rfl⟩
  rw [← hN] at hc0 hcell hn
  have HN := Lib.hid hN
  clear hN hL ho hbx h
  go_enter Tryd.func82, Tryd.ntmps82
  go_wp2
  go_loopw [7] (fun i wr => ∃ j : Nat, j ≤ n ∧ i = .int .i64 j ∧ Mod [] w wr ∧ Hid (∀ q x, q < j → L[q]? = some x → ¬ hits x c k)) (fun i _ => n - (intOf i).toNat)
  case atStart => exact ⟨0, Nat.zero_le _, rfl, Mod.refl _ _, Lib.hid (fun q x hq => absurd hq (by omega))⟩
  case round =>
    obtain ⟨j, hj, rfl, hM, HQ⟩ := hrel
    have z0 := hM.cell' hc0 (by simp)
    by_cases hlt : j < n
    · obtain ⟨g, rfl, hg1, hg2, hx⟩ := hcell (by omega)
      have hjL : j < L.length := by rw [← HN.out]; exact hlt
      obtain ⟨x, hh⟩ : ∃ h, L[j]? = some h := ⟨_, List.getElem?_eq_getElem hjL⟩
      obtain ⟨y0, y1, y2, y3⟩ := hx j _ hh
      replace y0 := hM.cell' y0 (by simp)
      replace y1 := hM.cell' y1 (by simp)
      replace y2 := hM.cell' y2 (by simp)
      replace y3 := hM.cell' y3 (by simp)
      have hgl := World.block_lt_of_cell? wr _ y0
      have i0 : (0 : Int) ≤ (j : Int) := by omega
      have i1 : (j : Int) < (n : Int) := by omega
      have hbl := World.block_lt_of_cell? wr _ z0
      have HH := Lib.hid hh
      have HM := Lib.hid (hM.alloc (.cells #[.int .i64 x.1, .int .i64 x.2.1, .int .i64 x.2.2.1, .int .i64 x.2.2.2] 39))
      have HR := Lib.hid (fun (hit : hits x c k) => rmode_hit (by rw [← HL.out]; exact List.mem_of_getElem? HH.out) hit : hits x c k → rmode t c k = (x.2.2.2 : Nat))
      have HNX := Lib.hid (fun (hit : ¬ hits x c k) => (fun q y hq hy => by
        rcases Nat.lt_or_ge q j with h | h
        · exact HQ.out q y h hy
        · obtain rfl : q = j := by omega
          rw [HH.out] at hy
          cases hy
          exact hit : ∀ q y, q < j + 1 → L[q]? = some y → ¬ hits y c k))
      clear hx hh hM HQ hcell
      by_cases e1 : (x.2.2.1 : Int) = c
      · have e1' : ((x.2.2.1 : Int) == c) = true := by simpa using e1
        by_cases e2 : (x.1 : Int) ≤ k
        · by_cases e3 : k < (x.2.1 : Int)
          · have HV := Lib.hid (HR.out ⟨e1, e2, e3⟩)
            clear e1
            go_wp2
            go_ret
            exact ⟨by rw [HV.out]; rfl, HM.out⟩
          · have e3' : decide (k < (x.2.1 : Int)) = false := by simpa using e3
            have HV := Lib.hid (HNX.out (fun h => e3 h.2.2))
            clear e1 e3
            go_wp2
            go_roundw
            case rel => exact ⟨j + 1, by omega, by go_num, HM.out, Lib.hid HV.out⟩
            case measure => simp [intOf]; omega
        · have e2' : decide ((x.1 : Int) ≤ k) = false := by simpa using e2
          have HV := Lib.hid (HNX.out (fun h => e2 h.2.1))
          clear e1 e2
          go_wp2
          go_roundw
          case rel => exact ⟨j + 1, by omega, by go_num, HM.out, Lib.hid HV.out⟩
          case measure => simp [intOf]; omega
      · have e1' : ((x.2.2.1 : Int) == c) = false := by simpa using e1
        have HV := Lib.hid (HNX.out (fun h => e1 h.1))
        clear e1
        go_wp2
        go_roundw
        case rel => exact ⟨j + 1, by omega, by go_num, HM.out, Lib.hid HV.out⟩
        case measure => simp [intOf]; omega
    · obtain rfl : j = n := by omega
      have hlt' : decide (j < j) = false := by simp
      have HV := Lib.hid (rmode_miss (t := t) (c := c) (k := k) (fun x hx => by
        rw [← HL.out] at hx
        obtain ⟨q, hq⟩ := List.getElem?_of_mem hx
        have hq2 : q < L.length := by
          rcases Nat.lt_or_ge q L.length with h | h
          · exact h
          · rw [List.getElem?_eq_none h] at hq; cases hq
        exact HQ.out q x (by rw [HN.out]; exact hq2) hq))
      go_wp2
      go_ret
      exact ⟨by rw [HV.out]; rfl, hM⟩

open Go.RowKit
set_option linter.unusedVariables false
set_option linter.unusedSimpArgs false
attribute [local go_sem ↓] Go.wp_at_zero Go.wp_at_succ

/-- A function of the modes 0, 1, 2, out of a list of three numbers. -/
def g3 (g0 g1 g2 m : Nat) : Nat := if m = 0 then g0 else if m = 1 then g1 else g2
theorem g3_bd {g0 g1 g2 : Nat} (h0 : g0 ≤ 2) (h1 : g1 ≤ 2) (h2 : g2 ≤ 2) : ∀ m, m ≤ 2 → g3 g0 g1 g2 m ≤ 2 := by
  intro m _
  unfold g3
  split
  · exact h0
  · split <;> assumption
/-- The mode behind which a block stands. -/
def lastM (t : Nat → Nat → Nat) (c k : Nat) : Nat := if k = 0 then 0 else t c (k - 1)
/-- In 'set': the new row so far; nothing else has changed. -/
structure SetI (w1 wr : World) (v : Value) (H : List HoldT) : Prop where
  own : wr.ownsRow w1.heap.size 39 4 v H.length (hcells H)
  md : Mod [] w1 wr
theorem SetI.same {w1 wr w' : World} {v : Value} {H : List HoldT} (h : SetI w1 wr v H) (m : Mod [] wr w') : SetI w1 w' v H := ⟨own_mod h.own m (by simp), h.md.trans m⟩
theorem SetI.grow {w1 wr w' : World} {v v' : Value} {H H' : List HoldT} (h : SetI w1 wr v H) (m : Mod v.ownBlock.toList wr w') (ho : w'.ownsRow w1.heap.size 39 4 v' H'.length (hcells H')) : SetI w1 w' v' H' :=
  ⟨ho, h.md.fresh m (fun x hx => .inr (own_lt' h.own x (by simpa using hx)).1)⟩
theorem news4 (W : World) (x : HoldT) (e : TypeId) : ∀ (j : Nat) u, (hcell x)[j]? = some u → (W.alloc (.cells #[.int .i64 x.1, .int .i64 x.2.1, .int .i64 x.2.2.1, .int .i64 x.2.2.2] e)).cell? ⟨W.heap.size, j, none⟩ = some u := by
  intro j u hj
  match j, hj with
  | 0, hj | 1, hj | 2, hj | 3, hj => simp [hcell] at hj; subst hj; simp
  | j + 4, hj => simp [hcell] at hj

set_option maxRecDepth 100000 in
set_option maxHeartbeats 4000000 in
theorem rset_calls (w : World) (base : List Nat) (r gt : Nat) (t : Nat → Nat → Nat) (cl a b : Int) (g0 g1 g2 : Nat) (hT : RTab w base r t) (b0 : g0 ≤ 2) (b1 : g1 ≤ 2) (b2 : g2 ≤ 2)
    (h0 : w.cell? ⟨gt, 0, none⟩ = some (.int .i64 g0)) (h1 : w.cell? ⟨gt, 1, none⟩ = some (.int .i64 g1)) (h2 : w.cell? ⟨gt, 2, none⟩ = some (.int .i64 g2)) (hb : ∀ k, k ∈ base → k < w.heap.size) :
    Calls Tryd.prog 74 #[.pointer (some ⟨r, 0, none⟩), .int .i64 cl, .agg #[.int .i64 a, .int .i64 b], .slice (some ⟨gt, 0, none⟩) 3 3] w fun e w' =>
      e = .returned (.tuple #[]) ∧ RTab w' base r (setT t cl a b (g3 g0 g1 g2)) ∧ Mod [r] w w' := by
  obtain ⟨t', ht'⟩ : ∃ t', t' = setT t cl a b (g3 g0 g1 g2) := ⟨_, rfl⟩
  have HT' := Lib.hid ht'
  have hbd' : ∀ c k, t' c k ≤ 2 := by rw [ht']; exact setT_bd hT.bd _ _ _ (g3_bd b0 b1 b2)
  have HBD := Lib.hid hbd'
  obtain ⟨w1, hw1⟩ : ∃ w1, w1 = w.alloc (.cells #[.int .i64 a, .int .i64 b] 23) := ⟨_, rfl⟩
  have M1 : Mod [] w w1 := by rw [hw1]; exact (Mod.refl [] w).alloc _
  have HM1 := Lib.hid M1
  have HTab := Lib.hid (hT.same M1)
  have k0 : w1.cell? ⟨w.heap.size, 0, none⟩ = some (.int .i64 a) := by rw [hw1]; simp
  have k1 : w1.cell? ⟨w.heap.size, 1, none⟩ = some (.int .i64 b) := by rw [hw1]; simp
  have K0 := Lib.hid k0
  have K1 := Lib.hid k1
  have T0 := Lib.hid (M1.cell' h0 (by simp))
  have T1 := Lib.hid (M1.cell' h1 (by simp))
  have T2 := Lib.hid (M1.cell' h2 (by simp))
  have s1 : w.heap.size + 1 = w1.heap.size := by rw [hw1]; simp
  rw [ht'.symm]
  have HW1 := Lib.hid hw1
  have S1 := Lib.hid s1
  clear ht' hbd' M1 k0 k1 h0 h1 h2 hT hw1 s1
  go_enter Tryd.func74, Tryd.ntmps74
  go_wp2
  rw [← HW1.out, S1.out]
  have I0 : SetI w1 (w1.alloc (.cells #[] 39)) (.slice (some ⟨w1.heap.size, 0, none⟩) 0 0) (holdsTo t' 0 256 pAll 0) :=
    ⟨⟨by simp [hcells, holdsTo], .inr ⟨w1.heap.size, 0, #[], rfl, Nat.le_refl _, heap_alloc_new _ _, by simp [holdsTo], by unfold maxLen; omega, rfl, by simp [hcells, holdsTo]⟩⟩, (Mod.refl [] w1).alloc _⟩
  have HI := Lib.hid I0
  clear I0
  go_loopw [8, 9] (fun v i wr => ∃ c : Nat, c ≤ 8 ∧ i = .int .i64 c ∧ SetI w1 wr v (holdsTo t' 0 256 pAll c)) (fun _ i _ => 8 - (intOf i).toNat)
  case atStart => exact ⟨0, Nat.zero_le _, rfl, HI.out⟩
  case round =>
    obtain ⟨c, hc8, rfl, hI⟩ := hrel
    by_cases hlt : c < 8
    · have i8 : (c : Int) < 8 := by omega
      have hI0 : SetI w1 wr u8 (upto t' c 0) := by rw [upto_zero]; exact hI
      have HI0 := Lib.hid hI0
      clear hI hI0 HI
      go_wp2
      obtain ⟨wo, hwo⟩ : ∃ wo : World, wo = wr := ⟨_, rfl⟩
      rw [← hwo] at HI0 ⊢
      clear hwo
      go_loopw [8, 10, 11] (fun v l i wr => ∃ k : Nat, k ≤ 256 ∧ i = .int .i64 k ∧ l = .int .i64 (lastM t' c k : Nat) ∧ SetI w1 wr v (upto t' c k)) (fun _ _ i _ => 256 - (intOf i).toNat)
      case atStart => exact ⟨0, Nat.zero_le _, rfl, rfl, HI0.out⟩
      case round =>
        obtain ⟨k, hk, rfl, rfl, hI⟩ := hrel
        clear HI0
        by_cases hlt2 : k < 256
        · have i9 : (k : Int) < 256 := by omega
          obtain ⟨m, hm⟩ : ∃ m, m = t' c k := ⟨_, rfl⟩
          have hm0 := HTab.out.bd c k
          have hm2 : m ≤ 2 := by rw [hm]; exact HBD.out c k
          have hat : t' c k = if (c : Int) = cl ∧ a ≤ k ∧ (k : Int) < b then g3 g0 g1 g2 (t c k) else t c k := by rw [HT'.out]; exact setT_at _ _ _ _ _ hlt hlt2
          have ways : ((c : Int) = cl ∧ a ≤ (k : Int) ∧ (k : Int) < b ∧ g3 g0 g1 g2 (t c k) = m) ∨ (¬ (c : Int) = cl ∧ t c k = m) ∨ ((c : Int) = cl ∧ ¬ a ≤ (k : Int) ∧ t c k = m) ∨ ((c : Int) = cl ∧ a ≤ (k : Int) ∧ ¬ (k : Int) < b ∧ t c k = m) := by
            rw [hm, hat]
            by_cases e1 : (c : Int) = cl
            · by_cases e2 : a ≤ (k : Int)
              · by_cases e3 : (k : Int) < b
                · rw [if_pos ⟨e1, e2, e3⟩]; exact .inl ⟨e1, e2, e3, rfl⟩
                · rw [if_neg (fun h => e3 h.2.2)]; exact .inr (.inr (.inr ⟨e1, e2, e3, rfl⟩))
              · rw [if_neg (fun h => e2 h.2.1)]; exact .inr (.inr (.inl ⟨e1, e2, rfl⟩))
            · rw [if_neg (fun h => e1 h.1)]; exact .inr (.inl ⟨e1, rfl⟩)
          obtain ⟨q, hq⟩ : ∃ q, q = lastM t' c k := ⟨_, rfl⟩
          have hnext : lastM t' c (k + 1) = m := by unfold lastM; rw [if_neg (by omega), hm]; rfl
          have steps : (m = 0 ∧ upto t' c (k + 1) = upto t' c k) ∨ (0 < m ∧ q = m ∧ ∃ l x, upto t' c k = l ++ [(x, k, c, m)] ∧ upto t' c (k + 1) = l ++ [(x, k + 1, c, m)]) ∨ (0 < m ∧ q ≠ m ∧ upto t' c (k + 1) = upto t' c k ++ [(k, k + 1, c, m)]) := by
            by_cases e0 : m = 0
            · exact .inl ⟨e0, upto_none (by rw [← hm]; exact e0)⟩
            · by_cases e1 : q = m
              · refine .inr (.inl ⟨by omega, e1, ?_⟩)
                unfold lastM at hq
                by_cases e2 : k = 0
                · rw [if_pos e2] at hq; omega
                · rw [if_neg e2] at hq
                  rw [hm]
                  exact upto_more (by rw [← hm]; exact e0) e2 (by rw [← hq, e1, hm])
              · refine .inr (.inr ⟨by omega, e1, ?_⟩)
                rw [hm]
                refine upto_new (by rw [← hm]; exact e0) ?_
                unfold lastM at hq
                by_cases e2 : k = 0
                · exact .inl e2
                · rw [if_neg e2] at hq
                  exact .inr (fun h => e1 (by rw [hq, h, hm]))
          have hlen := upto_len t' hlt (k := k) (by omega)
          rw [← hq]
          have HNX := Lib.hid hnext
          have HI1 := Lib.hid hI
          have HST := Lib.hid steps
          have HWY := Lib.hid ways
          clear hat hI hm hq hnext steps ways
          go_wp2_with fail
          refine (mode_calls _ base r t _ _ (HTab.out.same HI1.out.md)).mono ?_
          rintro e w5 ⟨rfl, m5⟩
          rw [rmode_at hlt hlt2]
          have hI5 := HI1.out.same m5
          have k0 := hI5.md.cell' K0.out (by simp)
          have k1 := hI5.md.cell' K1.out (by simp)
          have yy : w5.cell? ⟨gt, t c k, none⟩ = some (.int .i64 (g3 g0 g1 g2 (t c k) : Nat)) := by
            have y0 := hI5.md.cell' T0.out (by simp)
            have y1 := hI5.md.cell' T1.out (by simp)
            have y2 := hI5.md.cell' T2.out (by simp)
            have : t c k = 0 ∨ t c k = 1 ∨ t c k = 2 := by omega
            rcases this with h | h | h
            · rw [h]; exact y0
            · rw [h]; exact y1
            · rw [h]; exact y2
          have HI5 := Lib.hid hI5
          obtain ⟨m0, hmm⟩ : ∃ m0, m0 = t c k := ⟨_, rfl⟩
          rw [← hmm] at yy hm0 ⊢
          have ways2 : (((c : Int) == cl) = true ∧ a ≤ (k : Int) ∧ (k : Int) < b ∧ w5.cell? ⟨gt, m0, none⟩ = some (.int .i64 (m : Nat))) ∨ (((c : Int) == cl) = false ∧ m = m0) ∨ (((c : Int) == cl) = true ∧ decide (a ≤ (k : Int)) = false ∧ m = m0) ∨ (((c : Int) == cl) = true ∧ a ≤ (k : Int) ∧ decide ((k : Int) < b) = false ∧ m = m0) := by
            rcases HWY.out with ⟨e1, e2, e3, e4⟩ | ⟨e1, e4⟩ | ⟨e1, e2, e4⟩ | ⟨e1, e2, e3, e4⟩
            · exact .inl ⟨by simpa using e1, e2, e3, by rw [yy, hmm, e4]⟩
            · exact .inr (.inl ⟨by simpa using e1, by rw [hmm, e4]⟩)
            · exact .inr (.inr (.inl ⟨by simpa using e1, by simpa using e2, by rw [hmm, e4]⟩))
            · exact .inr (.inr (.inr ⟨by simpa using e1, e2, by simpa using e3, by rw [hmm, e4]⟩))
          have j0 : (0 : Int) ≤ (m0 : Int) := by omega
          have j1 : (m0 : Int) < 3 := by omega
          clear m5 hI5 HI1 HWY yy hmm
          rcases ways2 with ⟨e1, e2, e3, yy⟩ | ⟨e1, e4⟩ | ⟨e1, e2, e4⟩ | ⟨e1, e2, e3, e4⟩
          all_goals (try subst e4)
          all_goals
            rcases HST.out with ⟨f0, f1⟩ | ⟨f0, f1, l, x, f2, f3⟩ | ⟨f0, f1, f2⟩
            · obtain rfl := f0
              have FIN := Lib.hid (show SetI w1 w5 u8 (upto t' c (k + 1)) by rw [f1]; exact HI5.out)
              clear f1 HST
              go_wp2
              go_roundw
              case rel => exact ⟨k + 1, by omega, by go_num, by rw [HNX.out]; rfl, FIN.out⟩
              case measure => simp [intOf]; omega
            · obtain rfl := f1
              have ho := HI5.out.own
              rw [f2] at ho
              obtain ⟨g, cap, rfl, hg1, hg2, hg3, hg4⟩ := own_last ho
              have hcl : cap ≤ 9223372036854775807 := by unfold maxLen at hg4; omega
              have hl2 : l.length + 1 ≤ 2048 := by rw [f2] at hlen; simpa using hlen
              have ho' : w5.ownsRow w1.heap.size 39 4 (.slice (some ⟨g, 0, none⟩) (l.length + 1) cap) (l.length + 1) (hcells (l ++ [(x, k, c, q)])) := by simpa using ho
              have hc := own_cell (i := l.length * 4 + 1) (u := .int .i64 k) ho' (by
                rw [hcells_append, ← hcells_len, List.getElem?_append_right (by omega), Nat.add_sub_cancel_left]
                rfl)
              have hs := own_set (i := l.length * 4 + 1) (.int .i64 ((k + 1 : Nat) : Int)) ho' (by omega)
              rw [hcells_set] at hs
              have FIN := Lib.hid (show SetI w1 (w5.setCell ⟨g, l.length * 4 + 1, none⟩ (.int .i64 ((k + 1 : Nat) : Int))) (.slice (some ⟨g, 0, none⟩) (l.length + 1) cap) (upto t' c (k + 1)) by
                rw [f3]
                exact HI5.out.grow ((Mod.refl _ _).setCell (.inl (by simp [Value.ownBlock])) _) (by simpa using hs))
              obtain ⟨hc1, hc2⟩ := hc
              obtain ⟨N, hN⟩ : ∃ N, N = l.length := ⟨_, rfl⟩
              rw [← hN] at hc1 hc2 FIN hg3 hl2 ⊢
              rw [Int.natCast_succ] at FIN
              clear hN ho ho' hs f2 f3 HST hg4 hlen
              go_wp2
              go_roundw
              case rel => exact ⟨k + 1, by omega, by go_num, by rw [HNX.out], FIN.out⟩
              case measure => simp [intOf]; omega
            · have n1 : ((m : Int) == (q : Int)) = false := by simp; omega
              have n2 : ((m : Int) != (q : Int)) = true := by simp; omega
              have ho1 := own_mod HI5.out.own ((Mod.refl [] w5).alloc (.cells #[.int .i64 k, .int .i64 ((k : Int) + 1), .int .i64 c, .int .i64 m] 39)) (by simp)
              have hN4 := news4 w5 (k, k + 1, c, m) 39
              dsimp only at hN4
              rw [Int.natCast_succ] at hN4
              have HO := Lib.hid ho1
              have HN4 := Lib.hid hN4
              have lo5 := HI5.out.md.size
              have F2 := Lib.hid f2
              clear ho1 hN4 f1 f2 HST
              go_wp2_with (at_builtin; refine app1 w1.heap.size 31 39 (.agg #[.int .i64 0, .int .i64 0, .int .i64 0, .int .i64 0]) 4 32 Tryd.underlying31 info_hold rfl (by omega) (by omega) rfl _ _ rfl u8 _ _ rfl HO.out w5.heap.size (hcell (k, k + 1, c, m)) rfl rfl HN4.out (by simp [hcell, Value.oneCell']) (by omega) (by simp; omega) ?_; intro g9 cap9 w9 ho9 hm9 hg9 hb9)
              have FIN := Lib.hid (show SetI w1 w9 (.slice (some ⟨g9, 0, none⟩) ((upto t' c k).length + 1) cap9) (upto t' c (k + 1)) by
                rw [F2.out]
                refine (HI5.out.same ((Mod.refl [] w5).alloc _)).grow hm9 ?_
                rw [hcells_append, List.length_append, show hcells [(k, k + 1, c, m)] = hcell (k, k + 1, c, m) by simp [hcells]]
                exact ho9)
              clear ho9 hm9 hg9 hb9
              go_wp2
              go_roundw
              case rel => exact ⟨k + 1, by omega, by go_num, by rw [HNX.out], FIN.out⟩
              case measure => simp [intOf]; omega
        · obtain rfl : k = 256 := by omega
          have hlt' : decide ((256 : Int) < 256) = false := by simp
          rw [upto_all] at hI
          have HI1 := Lib.hid hI
          clear hI
          go_wp2
          go_roundw
          case rel => exact ⟨c + 1, by omega, by go_num, HI1.out⟩
          case measure => simp [intOf]; omega
    · obtain rfl : c = 8 := by omega
      have hlt' : decide ((8 : Int) < 8) = false := by simp
      obtain ⟨p8, cap8, rfl, -⟩ := own_holds' hI.own
      obtain ⟨v, hbx, -⟩ := (HTab.out.same hI.md).ex
      have hc := hbx.cell
      have hl := hbx.lt
      have hr1 : r < w1.heap.size := by
        obtain ⟨v', hbx', -⟩ := HTab.out.ex
        exact hbx'.lt
      have hfz : wr.frozen? ⟨r, 0, none⟩ = false := by simp [World.frozen?, show wr.heap[r]? = _ from hbx]
      have hs := S1.out
      have FIN : RTab (wr.setCell ⟨r, 0, none⟩ (.slice p8 (holdsTo t' 0 256 pAll 8).length cap8)) base r t' := by
        refine ⟨⟨_, hbx.set _, own_base (own_mod hI.own ((Mod.refl [r] wr).setCell (p := ⟨r, 0, none⟩) (by simp) _) (fun k hk => ?_)) (Nat.zero_le _), fun k hk e => ?_⟩, HBD.out⟩
        · have := own_lt' hI.own k hk
          simp
          omega
        · have := own_lt' hI.own k hk
          have := hb k e
          omega
      have MF : Mod [r] w (wr.setCell ⟨r, 0, none⟩ (.slice p8 (holdsTo t' 0 256 pAll 8).length cap8)) := (HM1.out.trans hI.md).nil.setCell (by simp) _
      have HF := Lib.hid FIN
      have HMF := Lib.hid MF
      clear FIN MF hI hbx hs
      go_wp2
      go_end0
      exact ⟨rfl, HF.out, HMF.out⟩

open Go.RowKit
set_option linter.unusedVariables false
set_option linter.unusedSimpArgs false
attribute [local go_sem ↓] Go.wp_at_zero Go.wp_at_succ

theorem news4g (W : World) (a b c m : Nat) (e : TypeId) (k : Nat) (hk : W.heap.size = k) : ∀ (j : Nat) u, (hcell (a, b, c, m))[j]? = some u → (W.alloc (.cells #[.int .i64 a, .int .i64 b, .int .i64 c, .int .i64 m] e)).cell? ⟨k, j, none⟩ = some u := by
  subst hk
  exact news4 W (a, b, c, m) e
theorem setI_more {w1 wr w9 : World} {v : Value} {L : List HoldT} {f : HoldT → Option HoldT} {i g cap : Nat} {x y : HoldT} (h : SetI w1 wr v ((L.take i).filterMap f)) (hx : L[i]? = some x) (hf : f x = some y) (m : Mod v.ownBlock.toList wr w9)
    (ho : w9.ownsRow w1.heap.size 39 4 (.slice (some ⟨g, 0, none⟩) (((L.take i).filterMap f).length + 1) cap) (((L.take i).filterMap f).length + 1) (hcells ((L.take i).filterMap f) ++ hcell y)) :
    SetI w1 w9 (.slice (some ⟨g, 0, none⟩) (((L.take i).filterMap f).length + 1) cap) ((L.take (i + 1)).filterMap f) := by
  rw [clip_snoc hx, hf]
  refine h.grow m ?_
  rw [hcells_append, List.length_append, show hcells (some y).toList = hcell y by simp [hcells]]
  exact ho
theorem setI_skip {w1 wr w9 : World} {v : Value} {L : List HoldT} {f : HoldT → Option HoldT} {i : Nat} {x : HoldT} (h : SetI w1 wr v ((L.take i).filterMap f)) (hx : L[i]? = some x) (hf : f x = none) (m : Mod [] wr w9) : SetI w1 w9 v ((L.take (i + 1)).filterMap f) := by
  rw [clip_snoc hx, hf]
  simpa using h.same m
theorem setI_zero (w1 : World) (L : List HoldT) (f : HoldT → Option HoldT) : SetI w1 (w1.alloc (.cells #[] 39)) (.slice (some ⟨w1.heap.size, 0, none⟩) 0 0) ((L.take 0).filterMap f) :=
  ⟨⟨by simp [hcells], .inr ⟨w1.heap.size, 0, #[], rfl, Nat.le_refl _, heap_alloc_new _ _, by simp, by unfold maxLen; omega, rfl, by simp [hcells]⟩⟩, (Mod.refl [] w1).alloc _⟩

set_option maxRecDepth 100000 in
set_option maxHeartbeats 4000000 in
theorem ragainst_calls (w : World) (base : List Nat) (r : Nat) (t : Nat → Nat → Nat) (a b hc hm : Int) (hT : RTab w base r t) :
    Calls Tryd.prog 73 #[.pointer (some ⟨r, 0, none⟩), .agg #[.int .i64 a, .int .i64 b, .int .i64 hc, .int .i64 hm]] w (SomeP w (someL t a b (pAg hc hm))) := by
  obtain ⟨w1, hw1⟩ : ∃ w1, w1 = w.alloc (.cells #[.int .i64 a, .int .i64 b, .int .i64 hc, .int .i64 hm] 39) := ⟨_, rfl⟩
  have M1 : Mod [] w w1 := by rw [hw1]; exact (Mod.refl [] w).alloc _
  have K0 := Lib.hid (show w1.cell? ⟨w.heap.size, 0, none⟩ = some (.int .i64 a) by rw [hw1]; simp)
  have K1 := Lib.hid (show w1.cell? ⟨w.heap.size, 1, none⟩ = some (.int .i64 b) by rw [hw1]; simp)
  have K2 := Lib.hid (show w1.cell? ⟨w.heap.size, 2, none⟩ = some (.int .i64 hc) by rw [hw1]; simp)
  have K3 := Lib.hid (show w1.cell? ⟨w.heap.size, 3, none⟩ = some (.int .i64 hm) by rw [hw1]; simp)
  have S1 := Lib.hid (show w.heap.size + 1 = w1.heap.size by rw [hw1]; simp)
  obtain ⟨v, hbx, ho, -⟩ := (hT.same M1).ex
  obtain ⟨p, cap, rfl, hn, hcap, hcell⟩ := own_holds' ho
  have Z0 := Lib.hid (hbx.cell : w1.cell? ⟨r, 0, none⟩ = some (.slice p (listL t).length cap))
  have HM1 := Lib.hid M1
  have HW1 := Lib.hid hw1
  have HE := Lib.hid (some_clip t a b (pAg hc hm))
  obtain ⟨L, hL⟩ : ∃ L, L = listL t := ⟨_, rfl⟩
  rw [← hL] at Z0 hcell hn HE
  have HL := Lib.hid hL
  have hLn : L.length ≤ 2048 := by
    rw [hL]
    exact holdsTo_len t 0 256 pAll 8
  obtain ⟨n, hN⟩ : ∃ n, n = L.length := ⟨_, rfl⟩
  rw [← hN] at Z0 hcell hn
  have HN := Lib.hid hN
  obtain ⟨f, hf⟩ : ∃ f, f = clipH (max a 0).toNat (min b 256).toNat (pAg hc hm) := ⟨_, rfl⟩
  have HF := Lib.hid hf
  rw [← hf] at HE
  have I0 := Lib.hid (setI_zero w1 L f)
  clear hN hL hw1 M1 hT ho hbx hf
  go_enter Tryd.func73, Tryd.ntmps73
  go_wp2
  rw [← HW1.out, S1.out]
  go_loopw [5, 6] (fun v i wr => ∃ j : Nat, j ≤ n ∧ i = .int .i64 j ∧ SetI w1 wr v ((L.take j).filterMap f)) (fun _ i _ => n - (intOf i).toNat)
  case atStart => exact ⟨0, Nat.zero_le _, rfl, I0.out⟩
  case round =>
    obtain ⟨j, hj, rfl, hI⟩ := hrel
    clear I0
    have z0 := hI.md.cell' Z0.out (by simp)
    by_cases hlt : j < n
    · obtain ⟨g, rfl, hg1, hg2, hx⟩ := hcell (by omega)
      have hjL : j < L.length := by rw [← HN.out]; exact hlt
      obtain ⟨⟨x1, x2, x3, x4⟩, hh⟩ : ∃ h, L[j]? = some h := ⟨_, List.getElem?_eq_getElem hjL⟩
      obtain ⟨y0, y1, y2, y3⟩ := hx j _ hh
      dsimp only at y0 y1 y2 y3
      replace y0 := hI.md.cell' y0 (by simp)
      replace y1 := hI.md.cell' y1 (by simp)
      replace y2 := hI.md.cell' y2 (by simp)
      replace y3 := hI.md.cell' y3 (by simp)
      have k0 := hI.md.cell' K0.out (by simp)
      have k1 := hI.md.cell' K1.out (by simp)
      have k2 := hI.md.cell' K2.out (by simp)
      have k3 := hI.md.cell' K3.out (by simp)
      have hgl := World.block_lt_of_cell? wr _ y0
      have hkl := World.block_lt_of_cell? wr _ k0
      have i0 : (0 : Int) ≤ (j : Int) := by omega
      have i1 : (j : Int) < (n : Int) := by omega
      have hlen : ((L.take j).filterMap f).length ≤ 2048 := by
        have h1 := List.length_filterMap_le f (L.take j)
        have h2 : (L.take j).length ≤ L.length := by simp; omega
        omega
      have hmem : (x1, x2, x3, x4) ∈ listL t := by rw [← HL.out]; exact List.mem_of_getElem? hh
      have HH := Lib.hid hh
      have HI := Lib.hid hI
      clear hx hh hI hcell
      go_wp2_with fail
      refine (meet_calls _ _ _ _ _).mono ?_
      rintro e z ⟨rfl, mz⟩
      have MZ : Mod [] wr z := ((Mod.refl [] wr).alloc _).trans mz
      have hzs : wr.heap.size < z.heap.size := by have := mz.size; simp at this; omega
      have c0 : z.cell? ⟨wr.heap.size, 0, none⟩ = some (.int .i64 x1) := mz.cell' (by simp) (by simp)
      have c1 : z.cell? ⟨wr.heap.size, 1, none⟩ = some (.int .i64 x2) := mz.cell' (by simp) (by simp)
      have c2 : z.cell? ⟨wr.heap.size, 2, none⟩ = some (.int .i64 x3) := mz.cell' (by simp) (by simp)
      have c3 : z.cell? ⟨wr.heap.size, 3, none⟩ = some (.int .i64 x4) := mz.cell' (by simp) (by simp)
      replace k2 := MZ.cell' k2 (by simp)
      replace k3 := MZ.cell' k3 (by simp)
      have hkz : w.heap.size < z.heap.size := by omega
      have HMZ := Lib.hid MZ
      clear y0 y1 y2 y3 k0 k1 mz MZ
      have cases4 : ((x3 : Int) ≠ hc ∧ max (x1 : Int) a < min (x2 : Int) b ∧ (x4 = 2 ∨ hm = 2)) ∨ ((x3 : Int) = hc) ∨ ((x3 : Int) ≠ hc ∧ ¬ max (x1 : Int) a < min (x2 : Int) b) ∨ ((x3 : Int) ≠ hc ∧ max (x1 : Int) a < min (x2 : Int) b ∧ x4 ≠ 2 ∧ hm ≠ 2) := by
        by_cases e1 : (x3 : Int) = hc
        · exact .inr (.inl e1)
        · by_cases e2 : max (x1 : Int) a < min (x2 : Int) b
          · by_cases e3 : x4 = 2 ∨ hm = 2
            · exact .inl ⟨e1, e2, e3⟩
            · exact .inr (.inr (.inr ⟨e1, e2, fun h => e3 (.inl h), fun h => e3 (.inr h)⟩))
          · exact .inr (.inr (.inl ⟨e1, e2⟩))
      rcases cases4 with ⟨e1, e2, e3⟩ | e1 | ⟨e1, e2⟩ | ⟨e1, e2, e3, e4⟩
      · obtain ⟨e5, e6, e7⟩ := meet_of hmem a b e2
        dsimp only at e5 e6 e7
        have hfx : f (x1, x2, x3, x4) = some (max x1 (max a 0).toNat, min x2 (min b 256).toNat, x3, x4) := by
          rw [HF.out]
          unfold clipH
          rw [if_pos ⟨by (simp only [pAg, Bool.and_eq_true, Bool.or_eq_true, decide_eq_true_eq]; exact ⟨e1, e3⟩), e5⟩]
        obtain ⟨m1, hm1⟩ : ∃ m1, m1 = max x1 (max a 0).toNat := ⟨_, rfl⟩
        obtain ⟨m2, hm2⟩ : ∃ m2, m2 = min x2 (min b 256).toNat := ⟨_, rfl⟩
        rw [← hm1, ← hm2] at hfx e5
        rw [e6, e7, ← hm1, ← hm2]
        have HFX := Lib.hid hfx
        have HO := Lib.hid (own_mod HI.out.own ((HMZ.out.alloc (.cells #[.int .i64 m1, .int .i64 m2] 23)).alloc (.cells #[.int .i64 m1, .int .i64 m2, .int .i64 x3, .int .i64 x4] 39)) (by simp))
        have HN4 := Lib.hid (news4g (z.alloc (.cells #[.int .i64 m1, .int .i64 m2] 23)) m1 m2 x3 x4 39 (z.heap.size + 1) (by simp))
        have lo5 := HI.out.md.size
        have f1 : ((x3 : Int) != hc) = true := by simpa using e1
        have f2 : (m1 : Int) < (m2 : Int) := by omega
        have hb2 : ((x4 : Int) == 2) = true ∨ (((x4 : Int) == 2) = false ∧ (hm == 2) = true) := by
          by_cases e8 : x4 = 2
          · exact .inl (by simp; omega)
          · exact .inr ⟨by simp; omega, by simp; omega⟩
        clear e1 e3
        clear hm1 hm2 e6 e7 hfx e2
        rcases hb2 with f3 | ⟨f3, f4⟩
        all_goals
          go_wp2_with (at_builtin; refine app1 w1.heap.size 31 39 (.agg #[.int .i64 0, .int .i64 0, .int .i64 0, .int .i64 0]) 4 32 Tryd.underlying31 info_hold rfl (by omega) (by omega) rfl _ _ rfl u5 _ _ rfl HO.out (z.heap.size + 1) (hcell (m1, m2, x3, x4)) rfl rfl HN4.out (by simp [hcell, Value.oneCell']) (by omega) (by simp; omega) ?_; intro g9 cap9 w9 ho9 hm9 hg9 hb9)
          have FIN := Lib.hid (setI_more (HI.out.same ((HMZ.out.alloc _).alloc _)) HH.out HFX.out hm9 ho9)
          clear ho9 hm9 hg9 hb9 HN4 HO HI
          go_wp2
          go_roundw
          case rel => exact ⟨j + 1, by omega, by go_num, FIN.out⟩
          case measure => simp [intOf]; omega
      · have hfx : f (x1, x2, x3, x4) = none := by
          rw [HF.out]
          unfold clipH
          rw [if_neg (by (simp only [pAg, e1]; simp))]
        have FIN := Lib.hid (setI_skip HI.out HH.out hfx (HMZ.out.alloc (.cells #[.int .i64 (max (x1 : Int) a), .int .i64 (min (x2 : Int) b)] 23)))
        obtain ⟨X1, hX1⟩ : ∃ X1, X1 = max (x1 : Int) a := ⟨_, rfl⟩
        obtain ⟨X2, hX2⟩ : ∃ X2, X2 = min (x2 : Int) b := ⟨_, rfl⟩
        rw [← hX1, ← hX2] at FIN ⊢
        have f1 : ((x3 : Int) != hc) = false := by simpa using e1
        clear e1
        clear hX1 hX2 hfx HI
        go_wp2
        go_roundw
        case rel => exact ⟨j + 1, by omega, by go_num, FIN.out⟩
        case measure => simp [intOf]; omega
      · have e5 := meet_not hmem a b e2
        dsimp only at e5
        have hfx : f (x1, x2, x3, x4) = none := by
          rw [HF.out]
          unfold clipH
          rw [if_neg (by exact fun h => e5 h.2)]
        have FIN := Lib.hid (setI_skip HI.out HH.out hfx (HMZ.out.alloc (.cells #[.int .i64 (max (x1 : Int) a), .int .i64 (min (x2 : Int) b)] 23)))
        obtain ⟨X1, hX1⟩ : ∃ X1, X1 = max (x1 : Int) a := ⟨_, rfl⟩
        obtain ⟨X2, hX2⟩ : ∃ X2, X2 = min (x2 : Int) b := ⟨_, rfl⟩
        rw [← hX1, ← hX2] at FIN ⊢
        have f1 : ((x3 : Int) != hc) = true := by simpa using e1
        have f2 : decide (X1 < X2) = false := by rw [hX1, hX2]; simpa using e2
        clear e1 e2 e5
        clear hX1 hX2 hfx HI
        go_wp2
        go_roundw
        case rel => exact ⟨j + 1, by omega, by go_num, FIN.out⟩
        case measure => simp [intOf]; omega
      · have hfx : f (x1, x2, x3, x4) = none := by
          rw [HF.out]
          unfold clipH
          rw [if_neg (by (simp only [pAg, Bool.and_eq_true, Bool.or_eq_true, decide_eq_true_eq]; exact fun h => h.1.2.elim e3 e4))]
        have FIN := Lib.hid (setI_skip HI.out HH.out hfx (HMZ.out.alloc (.cells #[.int .i64 (max (x1 : Int) a), .int .i64 (min (x2 : Int) b)] 23)))
        obtain ⟨X1, hX1⟩ : ∃ X1, X1 = max (x1 : Int) a := ⟨_, rfl⟩
        obtain ⟨X2, hX2⟩ : ∃ X2, X2 = min (x2 : Int) b := ⟨_, rfl⟩
        rw [← hX1, ← hX2] at FIN ⊢
        have f1 : ((x3 : Int) != hc) = true := by simpa using e1
        have f2 : X1 < X2 := by rw [hX1, hX2]; exact e2
        have f3 : ((x4 : Int) == 2) = false := by simp; omega
        have f4 : (hm == 2) = false := by simpa using e4
        clear e1 e2 e3 e4
        clear hX1 hX2 hfx HI
        go_wp2
        go_roundw
        case rel => exact ⟨j + 1, by omega, by go_num, FIN.out⟩
        case measure => simp [intOf]; omega
    · obtain rfl : j = n := by omega
      have hlt' : decide (j < j) = false := by simp
      have hF : SomeP w (someL t a b (pAg hc hm)) (.returned u5) wr := by
        have h1 := hI.own
        rw [show (L.take j) = L by rw [HN.out]; simp, ← HE.out] at h1
        exact ⟨_, rfl, own_base h1 (by have := S1.out; omega), HM1.out.trans hI.md⟩
      have HF' := Lib.hid hF
      clear hF hI
      go_wp2
      go_ret
      exact HF'.out
set_option maxRecDepth 100000 in
set_option maxHeartbeats 4000000 in
theorem rsome_calls (w : World) (base : List Nat) (r : Nat) (t : Nat → Nat → Nat) (a b cl mo : Int) (p : Nat → Nat → Bool) (hp : ∀ c m : Nat, p c m = (decide ((c : Int) = cl) && (decide (mo = 0) || decide ((m : Int) = mo)))) (hT : RTab w base r t) :
    Calls Tryd.prog 48 #[.pointer (some ⟨r, 0, none⟩), .int .i64 cl, .agg #[.int .i64 a, .int .i64 b], .int .i64 mo] w (SomeP w (someL t a b p)) := by
  obtain ⟨w1, hw1⟩ : ∃ w1, w1 = w.alloc (.cells #[.int .i64 a, .int .i64 b] 23) := ⟨_, rfl⟩
  have M1 : Mod [] w w1 := by rw [hw1]; exact (Mod.refl [] w).alloc _
  have K0 := Lib.hid (show w1.cell? ⟨w.heap.size, 0, none⟩ = some (.int .i64 a) by rw [hw1]; simp)
  have K1 := Lib.hid (show w1.cell? ⟨w.heap.size, 1, none⟩ = some (.int .i64 b) by rw [hw1]; simp)
  have S1 := Lib.hid (show w.heap.size + 1 = w1.heap.size by rw [hw1]; simp)
  obtain ⟨v, hbx, ho, -⟩ := (hT.same M1).ex
  obtain ⟨pp, cap, rfl, hn, hcap, hcell⟩ := own_holds' ho
  have Z0 := Lib.hid (hbx.cell : w1.cell? ⟨r, 0, none⟩ = some (.slice pp (listL t).length cap))
  have HM1 := Lib.hid M1
  have HW1 := Lib.hid hw1
  have HE := Lib.hid (some_clip t a b p)
  obtain ⟨L, hL⟩ : ∃ L, L = listL t := ⟨_, rfl⟩
  rw [← hL] at Z0 hcell hn HE
  have HL := Lib.hid hL
  have hLn : L.length ≤ 2048 := by
    rw [hL]
    exact holdsTo_len t 0 256 pAll 8
  obtain ⟨n, hN⟩ : ∃ n, n = L.length := ⟨_, rfl⟩
  rw [← hN] at Z0 hcell hn
  have HN := Lib.hid hN
  obtain ⟨f, hf⟩ : ∃ f, f = clipH (max a 0).toNat (min b 256).toNat p := ⟨_, rfl⟩
  have HF := Lib.hid hf
  rw [← hf] at HE
  have I0 := Lib.hid (setI_zero w1 L f)
  have HP := Lib.hid hp
  clear hN hL hw1 M1 hT ho hbx hf hp
  go_enter Tryd.func48, Tryd.ntmps48
  go_wp2
  rw [← HW1.out, S1.out]
  go_loopw [9, 10] (fun v i wr => ∃ j : Nat, j ≤ n ∧ i = .int .i64 j ∧ SetI w1 wr v ((L.take j).filterMap f)) (fun _ i _ => n - (intOf i).toNat)
  case atStart => exact ⟨0, Nat.zero_le _, rfl, I0.out⟩
  case round =>
    obtain ⟨j, hj, rfl, hI⟩ := hrel
    clear I0
    have z0 := hI.md.cell' Z0.out (by simp)
    by_cases hlt : j < n
    · obtain ⟨g, rfl, hg1, hg2, hx⟩ := hcell (by omega)
      have hjL : j < L.length := by rw [← HN.out]; exact hlt
      obtain ⟨⟨x1, x2, x3, x4⟩, hh⟩ : ∃ h, L[j]? = some h := ⟨_, List.getElem?_eq_getElem hjL⟩
      obtain ⟨y0, y1, y2, y3⟩ := hx j _ hh
      dsimp only at y0 y1 y2 y3
      replace y0 := hI.md.cell' y0 (by simp)
      replace y1 := hI.md.cell' y1 (by simp)
      replace y2 := hI.md.cell' y2 (by simp)
      replace y3 := hI.md.cell' y3 (by simp)
      have k0 := hI.md.cell' K0.out (by simp)
      have k1 := hI.md.cell' K1.out (by simp)
      have hgl := World.block_lt_of_cell? wr _ y0
      have hkl := World.block_lt_of_cell? wr _ k0
      have i0 : (0 : Int) ≤ (j : Int) := by omega
      have i1 : (j : Int) < (n : Int) := by omega
      have hlen : ((L.take j).filterMap f).length ≤ 2048 := by
        have h1 := List.length_filterMap_le f (L.take j)
        have h2 : (L.take j).length ≤ L.length := by simp; omega
        omega
      have hmem : (x1, x2, x3, x4) ∈ listL t := by rw [← HL.out]; exact List.mem_of_getElem? hh
      have HH := Lib.hid hh
      have HI := Lib.hid hI
      clear hx hh hI hcell
      go_wp2_with fail
      refine (meet_calls _ _ _ _ _).mono ?_
      rintro e z ⟨rfl, mz⟩
      have MZ : Mod [] wr z := ((Mod.refl [] wr).alloc _).trans mz
      have hzs : wr.heap.size < z.heap.size := by have := mz.size; simp at this; omega
      have c0 : z.cell? ⟨wr.heap.size, 0, none⟩ = some (.int .i64 x1) := mz.cell' (by simp) (by simp)
      have c1 : z.cell? ⟨wr.heap.size, 1, none⟩ = some (.int .i64 x2) := mz.cell' (by simp) (by simp)
      have c2 : z.cell? ⟨wr.heap.size, 2, none⟩ = some (.int .i64 x3) := mz.cell' (by simp) (by simp)
      have c3 : z.cell? ⟨wr.heap.size, 3, none⟩ = some (.int .i64 x4) := mz.cell' (by simp) (by simp)
      have hkz : w.heap.size < z.heap.size := by omega
      have HMZ := Lib.hid MZ
      clear y0 y1 y2 y3 k0 k1 mz MZ
      have cases4 : ((x3 : Int) = cl ∧ max (x1 : Int) a < min (x2 : Int) b ∧ (mo = 0 ∨ (x4 : Int) = mo)) ∨ ((x3 : Int) ≠ cl) ∨ ((x3 : Int) = cl ∧ ¬ max (x1 : Int) a < min (x2 : Int) b) ∨ ((x3 : Int) = cl ∧ max (x1 : Int) a < min (x2 : Int) b ∧ mo ≠ 0 ∧ (x4 : Int) ≠ mo) := by
        by_cases e1 : (x3 : Int) = cl
        rotate_left
        · exact .inr (.inl e1)
        · by_cases e2 : max (x1 : Int) a < min (x2 : Int) b
          · by_cases e3 : mo = 0 ∨ (x4 : Int) = mo
            · exact .inl ⟨e1, e2, e3⟩
            · exact .inr (.inr (.inr ⟨e1, e2, fun h => e3 (.inl h), fun h => e3 (.inr h)⟩))
          · exact .inr (.inr (.inl ⟨e1, e2⟩))
      rcases cases4 with ⟨e1, e2, e3⟩ | e1 | ⟨e1, e2⟩ | ⟨e1, e2, e3, e4⟩
      · obtain ⟨e5, e6, e7⟩ := meet_of hmem a b e2
        dsimp only at e5 e6 e7
        have hfx : f (x1, x2, x3, x4) = some (max x1 (max a 0).toNat, min x2 (min b 256).toNat, x3, x4) := by
          rw [HF.out]
          unfold clipH
          rw [if_pos ⟨by (simp only [HP.out, Bool.and_eq_true, Bool.or_eq_true, decide_eq_true_eq]; exact ⟨e1, e3⟩), e5⟩]
        obtain ⟨m1, hm1⟩ : ∃ m1, m1 = max x1 (max a 0).toNat := ⟨_, rfl⟩
        obtain ⟨m2, hm2⟩ : ∃ m2, m2 = min x2 (min b 256).toNat := ⟨_, rfl⟩
        rw [← hm1, ← hm2] at hfx e5
        rw [e6, e7, ← hm1, ← hm2]
        have HFX := Lib.hid hfx
        have HO := Lib.hid (own_mod HI.out.own ((HMZ.out.alloc (.cells #[.int .i64 m1, .int .i64 m2] 23)).alloc (.cells #[.int .i64 m1, .int .i64 m2, .int .i64 x3, .int .i64 x4] 39)) (by simp))
        have HN4 := Lib.hid (news4g (z.alloc (.cells #[.int .i64 m1, .int .i64 m2] 23)) m1 m2 x3 x4 39 (z.heap.size + 1) (by simp))
        have lo5 := HI.out.md.size
        have f2 : (m1 : Int) < (m2 : Int) := by omega
        have hb2 : (mo == 0) = true ∨ ((mo == 0) = false ∧ ((x4 : Int) == mo) = true) := by
          by_cases e8 : mo = 0
          · exact .inl (by simpa using e8)
          · exact .inr ⟨by simpa using e8, by simpa using e3.resolve_left e8⟩
        subst e1
        have f1 : ((x3 : Int) == (x3 : Int)) = true := by simp
        clear e3
        clear hm1 hm2 e6 e7 hfx e2
        rcases hb2 with f3 | ⟨f3, f4⟩
        all_goals
          go_wp2_with (at_builtin; refine app1 w1.heap.size 31 39 (.agg #[.int .i64 0, .int .i64 0, .int .i64 0, .int .i64 0]) 4 32 Tryd.underlying31 info_hold rfl (by omega) (by omega) rfl _ _ rfl u9 _ _ rfl HO.out (z.heap.size + 1) (hcell (m1, m2, x3, x4)) rfl rfl HN4.out (by simp [hcell, Value.oneCell']) (by omega) (by simp; omega) ?_; intro g9 cap9 w9 ho9 hm9 hg9 hb9)
          have FIN := Lib.hid (setI_more (HI.out.same ((HMZ.out.alloc _).alloc _)) HH.out HFX.out hm9 ho9)
          clear ho9 hm9 hg9 hb9 HN4 HO HI
          go_wp2
          go_roundw
          case rel => exact ⟨j + 1, by omega, by go_num, FIN.out⟩
          case measure => simp [intOf]; omega
      · have hfx : f (x1, x2, x3, x4) = none := by
          rw [HF.out]
          unfold clipH
          rw [if_neg (by (simp only [HP.out, e1]; simp))]
        have FIN := Lib.hid (setI_skip HI.out HH.out hfx (HMZ.out.alloc (.cells #[.int .i64 (max (x1 : Int) a), .int .i64 (min (x2 : Int) b)] 23)))
        obtain ⟨X1, hX1⟩ : ∃ X1, X1 = max (x1 : Int) a := ⟨_, rfl⟩
        obtain ⟨X2, hX2⟩ : ∃ X2, X2 = min (x2 : Int) b := ⟨_, rfl⟩
        rw [← hX1, ← hX2] at FIN ⊢
        have f1 : ((x3 : Int) == cl) = false := by simpa using e1
        clear e1
        clear hX1 hX2 hfx HI
        go_wp2
        go_roundw
        case rel => exact ⟨j + 1, by omega, by go_num, FIN.out⟩
        case measure => simp [intOf]; omega
      · have e5 := meet_not hmem a b e2
        dsimp only at e5
        have hfx : f (x1, x2, x3, x4) = none := by
          rw [HF.out]
          unfold clipH
          rw [if_neg (by exact fun h => e5 h.2)]
        have FIN := Lib.hid (setI_skip HI.out HH.out hfx (HMZ.out.alloc (.cells #[.int .i64 (max (x1 : Int) a), .int .i64 (min (x2 : Int) b)] 23)))
        obtain ⟨X1, hX1⟩ : ∃ X1, X1 = max (x1 : Int) a := ⟨_, rfl⟩
        obtain ⟨X2, hX2⟩ : ∃ X2, X2 = min (x2 : Int) b := ⟨_, rfl⟩
        rw [← hX1, ← hX2] at FIN ⊢
        have f1 : ((x3 : Int) == cl) = true := by simpa using e1
        have f2 : decide (X1 < X2) = false := by rw [hX1, hX2]; simpa using e2
        clear e1 e2 e5
        clear hX1 hX2 hfx HI
        go_wp2
        go_roundw
        case rel => exact ⟨j + 1, by omega, by go_num, FIN.out⟩
        case measure => simp [intOf]; omega
      · have hfx : f (x1, x2, x3, x4) = none := by
          rw [HF.out]
          unfold clipH
          rw [if_neg (by (simp only [HP.out, Bool.and_eq_true, Bool.or_eq_true, decide_eq_true_eq]; exact fun h => h.1.2.elim e3 e4))]
        have FIN := Lib.hid (setI_skip HI.out HH.out hfx (HMZ.out.alloc (.cells #[.int .i64 (max (x1 : Int) a), .int .i64 (min (x2 : Int) b)] 23)))
        obtain ⟨X1, hX1⟩ : ∃ X1, X1 = max (x1 : Int) a := ⟨_, rfl⟩
        obtain ⟨X2, hX2⟩ : ∃ X2, X2 = min (x2 : Int) b := ⟨_, rfl⟩
        rw [← hX1, ← hX2] at FIN ⊢
        have f1 : ((x3 : Int) == cl) = true := by simpa using e1
        have f2 : X1 < X2 := by rw [hX1, hX2]; exact e2
        have f3 : ((x4 : Int) == mo) = false := by simpa using e4
        have f4 : (mo == 0) = false := by simpa using e3
        clear e1 e2 e3 e4
        clear hX1 hX2 hfx HI
        go_wp2
        go_roundw
        case rel => exact ⟨j + 1, by omega, by go_num, FIN.out⟩
        case measure => simp [intOf]; omega
    · obtain rfl : j = n := by omega
      have hlt' : decide (j < j) = false := by simp
      have hF : SomeP w (someL t a b p) (.returned u9) wr := by
        have h1 := hI.own
        rw [show (L.take j) = L by rw [HN.out]; simp, ← HE.out] at h1
        exact ⟨_, rfl, own_base h1 (by have := S1.out; omega), HM1.out.trans hI.md⟩
      have HF' := Lib.hid hF
      clear hF hI
      go_wp2
      go_ret
      exact HF'.out

open Go.RowKit
set_option linter.unusedVariables false
set_option linter.unusedSimpArgs false
attribute [local go_sem ↓] Go.wp_at_zero Go.wp_at_succ

theorem setT_congr {t : Nat → Nat → Nat} (hb : ∀ c k, t c k ≤ 2) (c a b : Int) {g g' : Nat → Nat} (h : ∀ m, m ≤ 2 → g m = g' m) : setT t c a b g = setT t c a b g' := by
  unfold setT
  split
  · funext d k
    unfold setN
    split
    · exact h _ (hb d k)
    · rfl
  · rfl
def RPutP (w : World) (base : List Nat) (r : Nat) (t : Nat → Nat → Nat) (a b c m : Int) (e : Ending) (w' : World) : Prop :=
  e = .returned (.int .i64 (putE t a b c m)) ∧ RTab w' base r (putT t a b c m) ∧ Mod [r] w w'

set_option maxRecDepth 100000 in
set_option maxHeartbeats 4000000 in
theorem rput_calls (w : World) (base : List Nat) (r : Nat) (t : Nat → Nat → Nat) (a b c m : Int) (hT : RTab w base r t) (hbs : ∀ k, k ∈ base → k < w.heap.size) :
    Calls Tryd.prog 72 #[.pointer (some ⟨r, 0, none⟩), .agg #[.int .i64 a, .int .i64 b, .int .i64 c, .int .i64 m]] w (RPutP w base r t a b c m) := by
  obtain ⟨w1, hw1⟩ : ∃ w1, w1 = w.alloc (.cells #[.int .i64 a, .int .i64 b, .int .i64 c, .int .i64 m] 39) := ⟨_, rfl⟩
  have M1 : Mod [] w w1 := by rw [hw1]; exact (Mod.refl [] w).alloc _
  have K0 : w1.cell? ⟨w.heap.size, 0, none⟩ = some (.int .i64 a) := by rw [hw1]; simp
  have K1 : w1.cell? ⟨w.heap.size, 1, none⟩ = some (.int .i64 b) := by rw [hw1]; simp
  have K2 : w1.cell? ⟨w.heap.size, 2, none⟩ = some (.int .i64 c) := by rw [hw1]; simp
  have K3 : w1.cell? ⟨w.heap.size, 3, none⟩ = some (.int .i64 m) := by rw [hw1]; simp
  have s1 : w.heap.size + 1 = w1.heap.size := by rw [hw1]; simp
  have HT := Lib.hid (hT.same M1)
  have HW1 := Lib.hid hw1
  have HM1 := Lib.hid M1
  have S1 := Lib.hid s1
  have hl : r < w.heap.size := by obtain ⟨v, h, _⟩ := hT.ex; exact h.lt
  clear hT M1 hw1 s1
  have fail_of : ∀ (x : Int) (w' : World), putE t a b c m = x → x ≠ 0 → Mod [] w1 w' → RPutP w base r t a b c m (.returned (.int .i64 x)) w' := fun x w' h hx m => by
    refine ⟨by rw [h], ?_, (HM1.out.trans m).nil⟩
    unfold putT
    rw [if_neg (by rw [h]; exact hx)]
    exact HT.out.same m
  have FAIL := Lib.hid fail_of
  clear fail_of
  have HK0 := Lib.hid K0
  have HK1 := Lib.hid K1
  have HK2 := Lib.hid K2
  have HK3 := Lib.hid K3
  clear K0 K1 K2 K3
  by_cases hc : inC8 c = false
  · have E := Lib.hid (show putE t a b c m = 1 by simp [putE, hc])
    go_enter Tryd.func72, Tryd.ntmps72
    go_wp2_with (go_at_call 18; refine (rclient_calls _ _).mono ?_; rintro e w' ⟨rfl, rfl⟩)
    rw [← HW1.out]
    go_ret
    exact FAIL.out _ _ E.out (by decide) (Mod.refl _ _)
  have hc' : inC8 c = true := by simpa using hc
  by_cases hm : m ≠ 1 ∧ m ≠ 2
  · have E := Lib.hid (show putE t a b c m = 1 by simp [putE, hc', hm])
    have d1 : (m != 1) = true := by simpa using hm.1
    have d2 : (m != 2) = true := by simpa using hm.2
    clear hc hm
    go_enter Tryd.func72, Tryd.ntmps72
    go_wp2_with (go_at_call 18; refine (rclient_calls _ _).mono ?_; rintro e w' ⟨rfl, rfl⟩)
    rw [← HW1.out]
    go_ret
    exact FAIL.out _ _ E.out (by decide) (Mod.refl _ _)
  have hm12 : m = 1 ∨ m = 2 := by omega
  have E1 : putE t a b c m = if a < 0 then 71 else if b ≤ a then 71 else if 256 < b then 71 else if 0 < (someL t a b (pAg c m)).length then 150 else if 256 < (listL (upT t a b c m)).length then 2 else 0 := by
    unfold putE
    rw [if_neg hc, if_neg hm]
  have dm : (m != 1) = false ∨ ((m != 1) = true ∧ (m != 2) = false) := by
    rcases hm12 with h | h
    · exact .inl (by simpa using h)
    · exact .inr ⟨by simp; omega, by simpa using h⟩
  have HM12 := Lib.hid hm12
  clear hm hc hm12
  by_cases hbk : blk a b = false
  · have E := Lib.hid (show putE t a b c m = 71 by
      rw [E1]
      by_cases h1 : a < 0
      · rw [if_pos h1]
      · by_cases h2 : b ≤ a
        · rw [if_neg h1, if_pos h2]
        · rw [if_neg h1, if_neg h2, if_pos (by
            simp only [blk, Bool.and_eq_false_iff, decide_eq_false_iff_not] at hbk
            omega)])
    clear E1
    rcases dm with d1 | ⟨d1, d2⟩
    all_goals
      go_enter Tryd.func72, Tryd.ntmps72
      go_wp2_with (first
        | (go_at_call 18; refine (rclient_calls _ _).mono ?_; rintro e w' ⟨rfl, rfl⟩)
        | (go_at_call 11; refine (blocks_calls _ _ _).mono ?_; rintro e w' ⟨rfl, rfl⟩))
      rw [← HW1.out]
      go_ret
      exact FAIL.out _ _ E.out (by decide) ((Mod.refl _ _).alloc _)
  have hbk' : blk a b = true := by simpa using hbk
  have hblk := hbk'
  simp only [blk, Bool.and_eq_true, decide_eq_true_eq] at hblk
  rw [if_neg (by omega), if_neg (by omega), if_neg (by omega)] at E1
  clear hbk
  obtain ⟨n, hn⟩ : ∃ n, (someL t a b (pAg c m)).length = n := ⟨_, rfl⟩
  rw [hn] at E1
  have HNN := Lib.hid hn
  obtain ⟨w2, hw2⟩ : ∃ w2, w2 = w1.alloc (.cells #[.int .i64 a, .int .i64 b] 23) := ⟨_, rfl⟩
  have M2 : Mod [] w1 w2 := by rw [hw2]; exact (Mod.refl [] w1).alloc _
  have HW2 := Lib.hid hw2
  have HM2 := Lib.hid M2
  have HT2 := Lib.hid (HT.out.same M2)
  clear hn M2 hw2
  by_cases hn0 : 0 < n
  · have E := Lib.hid (show putE t a b c m = 150 by rw [E1, if_pos hn0])
    have hnI : (0 : Int) < (n : Int) := by omega
    clear E1
    rcases dm with d1 | ⟨d1, d2⟩
    all_goals
      go_enter Tryd.func72, Tryd.ntmps72
      go_wp2_with (first
        | (go_at_call 18; refine (rclient_calls _ _).mono ?_; rintro e w' ⟨rfl, rfl⟩)
        | (go_at_call 11; refine (blocks_calls _ _ _).mono ?_; rintro e w' ⟨rfl, rfl⟩))
      rw [← HW1.out, ← HW2.out]
      refine (ragainst_calls w2 base r t a b c m HT2.out).mono ?_
      rintro e z ⟨v, rfl, ho, mz⟩
      rw [HNN.out] at ho
      obtain ⟨p9, cap9, rfl⟩ := own_slice ho
      have MZ := Lib.hid (HM2.out.trans mz)
      clear ho mz
      go_wp2
      go_ret
      exact FAIL.out _ _ E.out (by decide) MZ.out
  have hn00 : n = 0 := by omega
  subst hn00
  rw [if_neg hn0] at E1
  clear hn0
  have hup : setT t c a b (g3 m.toNat m.toNat 2) = upT t a b c m := by
    unfold upT
    refine setT_congr HT.out.bd _ _ _ (fun x hx => ?_)
    unfold g3
    rcases HM12.out with h | h
    · subst h
      split
      · rename_i h; subst h; rfl
      · split
        · rename_i h; subst h; rfl
        · have : x = 2 := by omega
          subst this; rfl
    · subst h
      split
      · rename_i h; subst h; rfl
      · split
        · rename_i h; subst h; rfl
        · have : x = 2 := by omega
          subst this; rfl
  have HUP := Lib.hid hup
  have HE1 := Lib.hid E1
  clear hup E1 hblk
  obtain ⟨mn, hmn⟩ : ∃ mn : Nat, m = mn := ⟨m.toNat, by have := HM12.out; omega⟩
  subst hmn
  rw [Int.toNat_natCast] at HUP
  rcases dm with d1 | ⟨d1, d2⟩
  all_goals
    go_enter Tryd.func72, Tryd.ntmps72
    go_wp2_with (first
      | (go_at_call 18; refine (rclient_calls _ _).mono ?_; rintro e w' ⟨rfl, rfl⟩)
      | (go_at_call 11; refine (blocks_calls _ _ _).mono ?_; rintro e w' ⟨rfl, rfl⟩))
    rw [← HW1.out, ← HW2.out]
    refine (ragainst_calls w2 base r t a b c mn HT2.out).mono ?_
    rintro e z ⟨v, rfl, ho, mz⟩
    rw [HNN.out] at ho
    obtain ⟨p9, cap9, rfl⟩ := own_slice ho
    have MZ := Lib.hid (HM2.out.trans mz)
    have HTz := HT2.out.same mz
    obtain ⟨v0, hbx, ho0, hx0⟩ := HTz.ex
    have HX0 := Lib.hid hx0
    clear hx0
    obtain ⟨p0, cap0, rfl, -⟩ := own_holds' ho0
    have z0 := hbx.cell
    have k0 := MZ.out.cell' HK0.out (by simp)
    have k1 := MZ.out.cell' HK1.out (by simp)
    have k2 := MZ.out.cell' HK2.out (by simp)
    have k3 := MZ.out.cell' HK3.out (by simp)
    have hzs : w.heap.size < z.heap.size := by have := MZ.out.size; have := S1.out; omega
    have hrz := hbx.lt
    obtain ⟨q, hq⟩ : ∃ q, q = z.alloc (.cells #[.int .i64 mn, .int .i64 mn, .int .i64 2] 3) := ⟨_, rfl⟩
    have MQ : Mod [] z q := by rw [hq]; exact (Mod.refl [] z).alloc _
    have t0 : q.cell? ⟨z.heap.size, 0, none⟩ = some (.int .i64 (mn : Nat)) := by rw [hq]; simp
    have t1 : q.cell? ⟨z.heap.size, 1, none⟩ = some (.int .i64 (mn : Nat)) := by rw [hq]; simp
    have t2 : q.cell? ⟨z.heap.size, 2, none⟩ = some (.int .i64 (2 : Nat)) := by rw [hq]; simp
    have CS := Lib.hid (rset_calls q base r z.heap.size t c a b mn mn 2 (HTz.same MQ) (by have := HM12.out; omega) (by have := HM12.out; omega) (by omega) t0 t1 t2 (fun k hk => by have := hbs k hk; have := MQ.size; have := HM1.out.size; omega))
    have HQ := Lib.hid hq
    have HMQ := Lib.hid MQ
    have HO0 := Lib.hid ho0
    have HBX := Lib.hid hbx
    clear ho mz MQ t0 t1 t2 hq hbx ho0 HTz
    go_wp2_with fail
    rw [← HQ.out]
    refine CS.out.mono ?_
    rintro e x ⟨rfl, hTx, mx⟩
    rw [HUP.out] at hTx
    obtain ⟨vx, hbxx, hox, -⟩ :=
 hTx.ex
    obtain ⟨px, capx, rfl, -⟩ := own_holds' hox
    have x0 := hbxx.cell
    have xf := hbxx.frozen
    have xl := hbxx.lt
    obtain ⟨N, hN⟩ : ∃ N, N = (listL (upT t a b c mn)).length := ⟨_, rfl⟩
    rw [← hN] at x0
    have HN := Lib.hid hN
    have HTX := Lib.hid hTx
    have MX := Lib.hid (((MZ.out.trans HMQ.out).nil.trans mx : Mod [r] w1 x))
    clear hN hox hTx k0 k1 k2 k3 z0
    by_cases hfull : 256 < N
    · have E := Lib.hid (show putE t a b c mn = 2 by rw [HE1.out, ← HN.out, if_pos hfull])
      have hfI : (256 : Int) < (N : Int) := by omega
      have FIN : RPutP w base r t a b c mn (.returned (.int .i64 2)) (x.setCell ⟨r, 0, none⟩ (.slice p0 (listL t).length cap0)) := by
        refine ⟨by rw [E.out], ?_, (HM1.out.nil.trans MX.out).setCell (by simp) _⟩
        unfold putT
        rw [if_neg (by rw [E.out]; decide)]
        refine ⟨⟨_, hbxx.set _, own_mod (own_mod HO0.out (HMQ.out.nil.trans mx : Mod [r] z x) (fun k hk hs => ?_)) ((Mod.refl [r] x).setCell (by simp) _) (fun k hk hs => ?_), HX0.out⟩, HT.out.bd⟩
        all_goals
          have e' : k = r := by simpa using hs
          subst e'
          have h1 := own_type HO0.out k (by simpa using hk) _ _ HBX.out
          exact absurd h1 (by decide)
      have HFIN := Lib.hid FIN
      clear FIN hbxx mx hfull
      go_wp2
      go_ret
      exact HFIN.out
    · have E := Lib.hid (show putE t a b c mn = 0 by rw [HE1.out, ← HN.out, if_neg hfull])
      have hfI : ¬ (256 : Int) < (N : Int) := by omega
      have FIN : RPutP w base r t a b c mn (.returned (.int .i64 0)) x := by
        refine ⟨by rw [E.out], ?_, HM1.out.nil.trans MX.out⟩
        unfold putT
        rw [if_pos E.out]
        exact HTX.out
      have HFIN := Lib.hid FIN
      clear FIN hbxx mx hfull
      go_wp2
      go_ret
      exact HFIN.out

open Go.RowKit
set_option linter.unusedVariables false
set_option linter.unusedSimpArgs false
attribute [local go_sem ↓] Go.wp_at_zero Go.wp_at_succ

theorem pOf_eq (cl : Int) (c m : Nat) : pOf cl c m = (decide ((c : Int) = cl) && (decide ((0 : Int) = 0) || decide ((m : Int) = 0))) := by simp [pOf]
theorem pOf2_eq (cl : Int) (c m : Nat) : pOf2 cl c m = (decide ((c : Int) = cl) && (decide ((2 : Int) = 0) || decide ((m : Int) = 2))) := by
  have h9 : ((m : Int) = 2) ↔ m = 2 := by omega
  simp [pOf2, h9]

set_option maxRecDepth 100000 in
set_option maxHeartbeats 2000000 in
theorem rcut_calls (w : World) (base : List Nat) (r : Nat) (t : Nat → Nat → Nat) (cl a b : Int) (hT : RTab w base r t) (hbs : ∀ k, k ∈ base → k < w.heap.size) :
    Calls Tryd.prog 41 #[.pointer (some ⟨r, 0, none⟩), .int .i64 cl, .agg #[.int .i64 a, .int .i64 b]] w fun e w' =>
      ∃ v, e = .returned v ∧ w'.ownsRow w.heap.size 39 4 v (someL t a b (pOf cl)).length (hcells (someL t a b (pOf cl))) ∧ RTab w' base r (setT t cl a b (fun _ => 0)) ∧ Mod [r] w w' := by
  obtain ⟨w1, hw1⟩ : ∃ w1, w1 = w.alloc (.cells #[.int .i64 a, .int .i64 b] 23) := ⟨_, rfl⟩
  have M1 : Mod [] w w1 := by rw [hw1]; exact (Mod.refl [] w).alloc _
  have K0 : w1.cell? ⟨w.heap.size, 0, none⟩ = some (.int .i64 a) := by rw [hw1]; simp
  have K1 : w1.cell? ⟨w.heap.size, 1, none⟩ = some (.int .i64 b) := by rw [hw1]; simp
  have s1 : w.heap.size + 1 = w1.heap.size := by rw [hw1]; simp
  have HT := Lib.hid (hT.same M1)
  have HW1 := Lib.hid hw1
  have HM1 := Lib.hid M1
  have S1 := Lib.hid s1
  have HK0 := Lib.hid K0
  have HK1 := Lib.hid K1
  have hg : setT t cl a b (g3 0 0 0) = setT t cl a b (fun _ => 0) := setT_congr hT.bd _ _ _ (fun x hx => by
    have : x = 0 ∨ x = 1 ∨ x = 2 := by omega
    rcases this with rfl | rfl | rfl <;> rfl)
  have HG := Lib.hid hg
  clear hT M1 hw1 s1 K0 K1 hg
  go_enter Tryd.func41, Tryd.ntmps41
  go_wp2_with fail
  rw [← HW1.out]
  refine (rsome_calls w1 base r t a b cl 0 (pOf cl) (pOf_eq cl) HT.out).mono ?_
  rintro e z ⟨v, rfl, ho, mz⟩
  have k0 := mz.cell' HK0.out (by simp)
  have k1 := mz.cell' HK1.out (by simp)
  have hzs : w.heap.size < z.heap.size := by have := mz.size; have := S1.out; omega
  have hTz := HT.out.same mz
  obtain ⟨q, hq⟩ : ∃ q, q = z.alloc (.cells #[.int .i64 0, .int .i64 0, .int .i64 0] 3) := ⟨_, rfl⟩
  have MQ : Mod [] z q := by rw [hq]; exact (Mod.refl [] z).alloc _
  have t0 : q.cell? ⟨z.heap.size, 0, none⟩ = some (.int .i64 ((0 : Nat) : Int)) := by rw [hq]; simp
  have t1 : q.cell? ⟨z.heap.size, 1, none⟩ = some (.int .i64 ((0 : Nat) : Int)) := by rw [hq]; simp
  have t2 : q.cell? ⟨z.heap.size, 2, none⟩ = some (.int .i64 ((0 : Nat) : Int)) := by rw [hq]; simp
  have CS := Lib.hid (rset_calls q base r z.heap.size t cl a b 0 0 0 (hTz.same MQ) (by omega) (by omega) (by omega) t0 t1 t2 (fun k hk => by have := hbs k hk; have := MQ.size; have := HM1.out.size; omega))
  obtain ⟨v0, hbx, -⟩ := hTz.ex
  have HBX := Lib.hid hbx
  have HQ := Lib.hid hq
  have HMQ := Lib.hid MQ
  have HO := Lib.hid ho
  have HMZ := Lib.hid mz
  clear ho mz MQ t0 t1 t2 hq hbx hTz
  go_wp2_with fail
  rw [← HQ.out]
  refine CS.out.mono ?_
  rintro e x ⟨rfl, hTx, mx⟩
  rw [HG.out] at hTx
  have HTX := Lib.hid hTx
  have HMX := Lib.hid mx
  clear hTx mx k0 k1
  go_wp2
  go_ret
  refine ⟨v, rfl, own_base (own_mod HO.out (HMQ.out.nil.trans HMX.out : Mod [r] z x) (fun k hk hs => ?_)) (by have := S1.out; omega), HTX.out, ((HM1.out.trans HMZ.out).trans HMQ.out).nil.trans HMX.out⟩
  have e' : k = r := by simpa using hs
  subst e'
  exact absurd (own_type HO.out k (by simpa using hk) _ _ HBX.out) (by decide)

set_option maxRecDepth 100000 in
set_option maxHeartbeats 2000000 in
theorem rweaken_calls (w : World) (base : List Nat) (r : Nat) (t : Nat → Nat → Nat) (cl a b : Int) (hT : RTab w base r t) (hbs : ∀ k, k ∈ base → k < w.heap.size) :
    Calls Tryd.prog 42 #[.pointer (some ⟨r, 0, none⟩), .int .i64 cl, .agg #[.int .i64 a, .int .i64 b]] w fun e w' =>
      ∃ v, e = .returned v ∧ w'.ownsRow w.heap.size 39 4 v (someL t a b (pOf2 cl)).length (hcells (someL t a b (pOf2 cl))) ∧ RTab w' base r (setT t cl a b (fun m => min m 1)) ∧ Mod [r] w w' := by
  obtain ⟨w1, hw1⟩ : ∃ w1, w1 = w.alloc (.cells #[.int .i64 a, .int .i64 b] 23) := ⟨_, rfl⟩
  have M1 : Mod [] w w1 := by rw [hw1]; exact (Mod.refl [] w).alloc _
  have K0 : w1.cell? ⟨w.heap.size, 0, none⟩ = some (.int .i64 a) := by rw [hw1]; simp
  have K1 : w1.cell? ⟨w.heap.size, 1, none⟩ = some (.int .i64 b) := by rw [hw1]; simp
  have s1 : w.heap.size + 1 = w1.heap.size := by rw [hw1]; simp
  have HT := Lib.hid (hT.same M1)
  have HW1 := Lib.hid hw1
  have HM1 := Lib.hid M1
  have S1 := Lib.hid s1
  have HK0 := Lib.hid K0
  have HK1 := Lib.hid K1
  have hg : setT t cl a b (g3 0 1 1) = setT t cl a b (fun m => min m 1) := setT_congr hT.bd _ _ _ (fun x hx => by
    have : x = 0 ∨ x = 1 ∨ x = 2 := by omega
    rcases this with rfl | rfl | rfl <;> rfl)
  have HG := Lib.hid hg
  clear hT M1 hw1 s1 K0 K1 hg
  go_enter Tryd.func42, Tryd.ntmps42
  go_wp2_with fail
  rw [← HW1.out]
  refine (rsome_calls w1 base r t a b cl 2 (pOf2 cl) (pOf2_eq cl) HT.out).mono ?_
  rintro e z ⟨v, rfl, ho, mz⟩
  have k0 := mz.cell' HK0.out (by simp)
  have k1 := mz.cell' HK1.out (by simp)
  have hzs : w.heap.size < z.heap.size := by have := mz.size; have := S1.out; omega
  have hTz := HT.out.same mz
  obtain ⟨q, hq⟩ : ∃ q, q = z.alloc (.cells #[.int .i64 0, .int .i64 1, .int .i64 1] 3) := ⟨_, rfl⟩
  have MQ : Mod [] z q := by rw [hq]; exact (Mod.refl [] z).alloc _
  have t0 : q.cell? ⟨z.heap.size, 0, none⟩ = some (.int .i64 ((0 : Nat) : Int)) := by rw [hq]; simp
  have t1 : q.cell? ⟨z.heap.size, 1, none⟩ = some (.int .i64 ((1 : Nat) : Int)) := by rw [hq]; simp
  have t2 : q.cell? ⟨z.heap.size, 2, none⟩ = some (.int .i64 ((1 : Nat) : Int)) := by rw [hq]; simp
  have CS := Lib.hid (rset_calls q base r z.heap.size t cl a b 0 1 1 (hTz.same MQ) (by omega) (by omega) (by omega) t0 t1 t2 (fun k hk => by have := hbs k hk; have := MQ.size; have := HM1.out.size; omega))
  obtain ⟨v0, hbx, -⟩ := hTz.ex
  have HBX := Lib.hid hbx
  have HQ := Lib.hid hq
  have HMQ := Lib.hid MQ
  have HO := Lib.hid ho
  have HMZ := Lib.hid mz
  clear ho mz MQ t0 t1 t2 hq hbx hTz
  go_wp2_with fail
  rw [← HQ.out]
  refine CS.out.mono ?_
  rintro e x ⟨rfl, hTx, mx⟩
  rw [HG.out] at hTx
  have HTX := Lib.hid hTx
  have HMX := Lib.hid mx
  clear hTx mx k0 k1
  go_wp2
  go_ret
  refine ⟨v, rfl, own_base (own_mod HO.out (HMQ.out.nil.trans HMX.out : Mod [r] z x) (fun k hk hs => ?_)) (by have := S1.out; omega), HTX.out, ((HM1.out.trans HMZ.out).trans HMQ.out).nil.trans HMX.out⟩
  have e' : k = r := by simpa using hs
  subst e'
  exact absurd (own_type HO.out k (by simpa using hk) _ _ HBX.out) (by decide)

theorem rdrop_calls (w : World) (base : List Nat) (r : Nat) (t : Nat → Nat → Nat) (cl : Int) (hT : RTab w base r t) (hbs : ∀ k, k ∈ base → k < w.heap.size) :
    Calls Tryd.prog 49 #[.pointer (some ⟨r, 0, none⟩), .int .i64 cl] w fun e w' =>
      ∃ v, e = .returned v ∧ w'.ownsRow w.heap.size 39 4 v (someL t 0 256 (pOf cl)).length (hcells (someL t 0 256 (pOf cl))) ∧ RTab w' base r (setT t cl 0 256 (fun _ => 0)) ∧ Mod [r] w w' := by
  have C := Lib.hid (rcut_calls w base r t cl 0 256 hT hbs)
  clear hT
  go_enter Tryd.func49, Tryd.ntmps49
  go_wp2_with (go_at_call 41; refine C.out.mono ?_; rintro e w' ⟨v, rfl, ho, hT, hm⟩)
  go_ret
  exact ⟨v, rfl, ho, hT, hm⟩

theorem rhas_eq (t : Nat → Nat → Nat) (c k m : Int) : hasV t c k m = if m = 1 ∨ m = 2 then decide (m ≤ rmode t c k) else false := by
  unfold hasV rmode
  by_cases hc : inC8 c = false
  · rw [if_pos hc]
    split
    · rename_i h
      rw [if_neg (by rw [hc]; simp)]
      simp
      omega
    · rfl
  · rw [if_neg hc]
    have hc' : inC8 c = true := by simpa using hc
    by_cases h1 : k < 0
    · rw [if_pos h1]
      split
      · rename_i h
        rw [if_neg (by omega)]
        simp
        omega
      · rfl
    · rw [if_neg h1]
      by_cases h2 : 256 ≤ k
      · rw [if_pos h2]
        split
        · rename_i h
          rw [if_neg (by omega)]
          simp
          omega
        · rfl
      · rw [if_neg h2]
        by_cases h3 : m ≠ 1 ∧ m ≠ 2
        · rw [if_pos h3, if_neg (by omega)]
        · rw [if_neg h3, if_pos (by omega), if_pos ⟨hc', by omega, by omega⟩]
end Go.Proofs.YtijjbkkcienfgaaDoor.Rf
namespace Go.Proofs.YtijjbkkcienfgaaDoor.Rf
open Go.RowKit
set_option linter.unusedVariables false
set_option linter.unusedSimpArgs false
attribute [local go_sem ↓] Go.wp_at_zero Go.wp_at_succ

/-- The blocks of the document's service. -/
def RbL (sv rT bB gT gS gD gy : Nat) : List Nat := [sv, rT, bB, gT, gS, gD, gy]
def rsvF (rT bB gy cy : Nat) (v : Value) (last : Nat) (i : Nat) : Value := if i = 0 then .pointer (some ⟨rT, 0, none⟩) else if i = 1 then .pointer (some ⟨bB, 0, none⟩) else if i = 2 then v else if i = 3 then .int .i64 last else .slice (some ⟨gy, 0, none⟩) 8 cy
/-- The document's service: its table, its book, what waits, who recovers whom; none of its blocks is one of X. -/
structure RSv (w : World) (X : List Nat) (N0 sv rT bB gT gS gD cap gy cy : Nat) (v : Value) (x : GS) : Prop where
  arr : Arr w sv 68 5 (rsvF rT bB gy cy v x.last)
  tb : RTab w X rT x.t
  bk : RBk w bB gT gS gD cap x.u x.s x.d
  wt : w.ownsRow 0 39 4 v x.wl.length (hcells x.wl)
  wx : ∀ k, v.ownBlock = some k → k ∉ X
  by' : Arr w gy 3 8 (fun i => .int .i64 (x.bb i))
  n1 : gy ≠ gT
  n2 : gy ≠ gS
  cy8 : 8 ≤ cy ∧ cy ≤ 9223372036854775807
  inv : GInv x
  ap : ∀ z, z ∈ RbL sv rT bB gT gS gD gy → z ∉ X ∧ N0 ≤ z
theorem rtab_arr {w : World} {X : List Nat} {r : Nat} {t : Nat → Nat → Nat} (h : RTab w X r t) : ∃ f, Arr w r 64 1 f := by
  obtain ⟨v, hb, _⟩ := h.ex
  refine ⟨fun _ => v, #[v], hb, by simp, fun i hi => ?_⟩
  obtain rfl : i = 0 := by omega
  rfl
/-- The same table, told of other blocks. -/
theorem RTab.other {w : World} {X X' : List Nat} {r : Nat} {t : Nat → Nat → Nat} (h : RTab w X r t) (hX : ∀ z, z ∈ X' → z ∈ X ∨ w.heap.size ≤ z) : RTab w X' r t := by
  obtain ⟨⟨v, h1, h2, h3⟩, hb⟩ := h
  refine ⟨⟨v, h1, h2, fun k hk e => ?_⟩, hb⟩
  rcases hX k e with e | e
  · exact h3 k hk e
  · have := (own_lt' h2 k hk).2
    omega
namespace RSv
variable {w w' : World} {X X' S : List Nat} {N0 sv rT bB gT gS gD cap gy cy : Nat} {v v' : Value} {x : GS}
theorem c0 (h : RSv w X N0 sv rT bB gT gS gD cap gy cy v x) : w.cell? ⟨sv, 0, none⟩ = some (.pointer (some ⟨rT, 0, none⟩)) := h.arr.cell 0 (by omega)
theorem c1 (h : RSv w X N0 sv rT bB gT gS gD cap gy cy v x) : w.cell? ⟨sv, 1, none⟩ = some (.pointer (some ⟨bB, 0, none⟩)) := h.arr.cell 1 (by omega)
theorem c2 (h : RSv w X N0 sv rT bB gT gS gD cap gy cy v x) : w.cell? ⟨sv, 2, none⟩ = some v := h.arr.cell 2 (by omega)
theorem c3 (h : RSv w X N0 sv rT bB gT gS gD cap gy cy v x) : w.cell? ⟨sv, 3, none⟩ = some (.int .i64 x.last) := h.arr.cell 3 (by omega)
theorem c4 (h : RSv w X N0 sv rT bB gT gS gD cap gy cy v x) : w.cell? ⟨sv, 4, none⟩ = some (.slice (some ⟨gy, 0, none⟩) 8 cy) := h.arr.cell 4 (by omega)
theorem lt (h : RSv w X N0 sv rT bB gT gS gD cap gy cy v x) : ∀ z, z ∈ RbL sv rT bB gT gS gD gy → z < w.heap.size := by
  obtain ⟨f, a⟩ := rtab_arr h.tb
  intro z hz
  simp only [RbL, List.mem_cons, List.not_mem_nil, or_false] at hz
  rcases hz with e | e | e | e | e | e | e <;> subst e
  · exact h.arr.lt
  · exact a.lt
  · exact h.bk.arr.lt
  · exact h.bk.rT.lt
  · exact h.bk.rS.lt
  · exact h.bk.rD.lt
  · exact h.by'.lt
/-- What others have changed. -/
theorem mod (h : RSv w X N0 sv rT bB gT gS gD cap gy cy v x) (m : Mod S w w') (hS : ∀ z, z ∈ S → z ∈ X ∨ w.heap.size ≤ z) : RSv w' X N0 sv rT bB gT gS gD cap gy cy v x := by
  have key : ∀ z, z ∈ RbL sv rT bB gT gS gD gy → z ∉ S := fun z hz e => by
    rcases hS z e with e | e
    · exact (h.ap z hz).1 e
    · have := h.lt z hz
      omega
  have k1 := key sv (by simp [RbL])
  have k2 := key rT (by simp [RbL])
  have k3 := key bB (by simp [RbL])
  have k4 := key gT (by simp [RbL])
  have k5 := key gS (by simp [RbL])
  have k6 := key gD (by simp [RbL])
  have k7 := key gy (by simp [RbL])
  exact ⟨h.arr.mod m k1, h.tb.mod m k2 (fun s hs => (hS s hs).imp id .inl), h.bk.mod m k3 k4 k5 k6, own_mod h.wt m (fun k hk e => by
    rcases hS k e with e | e
    · exact h.wx k hk e
    · have := (own_lt' h.wt k hk).2
      omega), h.wx, h.by'.mod m k7, h.n1, h.n2, h.cy8, h.inv, h.ap⟩
theorem mod0 (h : RSv w X N0 sv rT bB gT gS gD cap gy cy v x) (m : Mod [] w w') : RSv w' X N0 sv rT bB gT gS gD cap gy cy v x := h.mod m (by simp)
/-- The same service, told of other blocks. -/
theorem other (h : RSv w X N0 sv rT bB gT gS gD cap gy cy v x) (hX : ∀ z, z ∈ X' → z ∈ X ∨ w.heap.size ≤ z) : RSv w X' N0 sv rT bB gT gS gD cap gy cy v x :=
  ⟨h.arr, h.tb.other hX, h.bk, h.wt, fun k hk e => by
    rcases hX k e with e | e
    · exact h.wx k hk e
    · have := (own_lt' h.wt k hk).2
      omega, h.by', h.n1, h.n2, h.cy8, h.inv, fun z hz => ⟨fun e => by
    rcases hX z e with e | e
    · exact (h.ap z hz).1 e
    · have := h.lt z hz
      omega, (h.ap z hz).2⟩⟩
/-- What others have changed, told of other blocks. -/
theorem step (h : RSv w X N0 sv rT bB gT gS gD cap gy cy v x) (m : Mod S w w') (hS : ∀ z, z ∈ S → z ∈ X ∨ w.heap.size ≤ z) (hX : ∀ z, z ∈ X' → z ∈ X ∨ w.heap.size ≤ z) : RSv w' X' N0 sv rT bB gT gS gD cap gy cy v x := by
  have h1 : RSv w (X ++ X') N0 sv rT bB gT gS gD cap gy cy v x := h.other (fun z hz => by
    rcases List.mem_append.1 hz with e | e
    · exact .inl e
    · exact hX z e)
  have h2 := h1.mod m (fun z hz => (hS z hz).imp (fun e => List.mem_append.2 (.inl e)) id)
  exact h2.other (fun z hz => .inl (List.mem_append.2 (.inr hz)))
/-- Its blocks are apart. -/
theorem ne (h : RSv w X N0 sv rT bB gT gS gD cap gy cy v x) : sv ≠ rT ∧ sv ≠ bB ∧ sv ≠ gT ∧ sv ≠ gS ∧ sv ≠ gD ∧ sv ≠ gy ∧ rT ≠ bB ∧ rT ≠ gT ∧ rT ≠ gS ∧ rT ≠ gD ∧ rT ≠ gy ∧ bB ≠ gy ∧ gD ≠ gy := by
  obtain ⟨f, a⟩ := rtab_arr h.tb
  exact ⟨arr_ne h.arr a (by decide), arr_ne h.arr h.bk.arr (by decide), arr_ne h.arr h.bk.rT (by decide), arr_ne h.arr h.bk.rS (by decide), arr_ne h.arr h.bk.rD (by decide), arr_ne h.arr h.by' (by decide),
    arr_ne a h.bk.arr (by decide), arr_ne a h.bk.rT (by decide), arr_ne a h.bk.rS (by decide), arr_ne a h.bk.rD (by decide), arr_ne a h.by' (by decide), arr_ne h.bk.arr h.by' (by decide), arr_ne h.bk.rD h.by' (by decide)⟩
/-- A row of holds is none of its blocks. -/
theorem row (h : RSv w X N0 sv rT bB gT gS gD cap gy cy v x) {b T sz n : Nat} {u : Value} {xs : List Value} (ho : w.ownsRow b T sz u n xs) (h1 : T ≠ 68) (h2 : T ≠ 64) (h3 : T ≠ 109) (h4 : T ≠ 3) (h5 : T ≠ 4) :
    ∀ k, u.ownBlock = some k → k ∉ RbL sv rT bB gT gS gD gy := by
  obtain ⟨f, a⟩ := rtab_arr h.tb
  intro k hk e
  simp only [RbL, List.mem_cons, List.not_mem_nil, or_false] at e
  have hm : k ∈ u.ownBlock.toList := by simpa using hk
  rcases e with e | e | e | e | e | e | e <;> subst e
  · exact own_notArr ho h.arr h1 hm
  · exact own_notArr ho a h2 hm
  · exact own_notArr ho h.bk.arr h3 hm
  · exact own_notArr ho h.bk.rT h4 hm
  · exact own_notArr ho h.bk.rS h4 hm
  · exact own_notArr ho h.bk.rD h5 hm
  · exact own_notArr ho h.by' h4 hm
theorem holds (h : RSv w X N0 sv rT bB gT gS gD cap gy cy v x) {b n : Nat} {u : Value} {xs : List Value} (ho : w.ownsRow b 39 4 u n xs) : ∀ k, u.ownBlock = some k → k ∉ RbL sv rT bB gT gS gD gy :=
  h.row ho (by decide) (by decide) (by decide) (by decide) (by decide)
/-- The table has changed. -/
theorem setT (h : RSv w X N0 sv rT bB gT gS gD cap gy cy v x) {t : Nat → Nat → Nat} (hT : RTab w' X rT t) (m : Mod [rT] w w') : RSv w' X N0 sv rT bB gT gS gD cap gy cy v { x with t := t } := by
  obtain ⟨a1, a2, a3, a4, a5, a6, a7, a8, a9, a10, a11, a12, a13⟩ := h.ne
  exact ⟨h.arr.mod m (by simpa using a1), hT, h.bk.mod m (by simpa using Ne.symm a7) (by simpa using Ne.symm a8) (by simpa using Ne.symm a9) (by simpa using Ne.symm a10), own_mod h.wt m (fun k hk e => h.holds h.wt k hk (by have := List.mem_singleton.1 e; subst this; simp [RbL])), h.wx, h.by'.mod m (by simpa using Ne.symm a11), h.n1, h.n2, h.cy8, ⟨h.inv.last, h.inv.wl, h.inv.len, h.inv.one, h.inv.by1⟩, h.ap⟩
/-- The book has changed. -/
theorem setB (h : RSv w X N0 sv rT bB gT gS gD cap gy cy v x) {u s : Nat → Int} {d : Nat → Bool} (hB : RBk w' bB gT gS gD cap u s d) (m : Mod [gT, gS, gD] w w') : RSv w' X N0 sv rT bB gT gS gD cap gy cy v { x with u := u, s := s, d := d } := by
  obtain ⟨a1, a2, a3, a4, a5, a6, a7, a8, a9, a10, a11, a12, a13⟩ := h.ne
  refine ⟨h.arr.mod m (by simp; exact ⟨a3, a4, a5⟩), h.tb.mod m (by simp; exact ⟨a8, a9, a10⟩) (fun z hz => .inr (.inr ?_)), hB, own_mod h.wt m (fun k hk e => h.holds h.wt k hk (by simp at e; rcases e with e | e | e <;> subst e <;> simp [RbL])), h.wx, h.by'.mod m (by simp; exact ⟨h.n1, h.n2, Ne.symm a13⟩), h.n1, h.n2, h.cy8, ⟨h.inv.last, h.inv.wl, h.inv.len, h.inv.one, h.inv.by1⟩, h.ap⟩
  simp at hz
  rcases hz with e | e | e <;> subst e
  · obtain ⟨cs, e, _⟩ := h.bk.rT
    exact ⟨cs, _, e, by decide⟩
  · obtain ⟨cs, e, _⟩ := h.bk.rS
    exact ⟨cs, _, e, by decide⟩
  · obtain ⟨cs, e, _⟩ := h.bk.rD
    exact ⟨cs, _, e, by decide⟩
/-- A cell of the service itself has changed. -/
theorem setV (h : RSv w X N0 sv rT bB gT gS gD cap gy cy v x) {l : List HoldT} {n : Nat} {i : Nat} {u : Value} (hl : w.ownsRow 0 39 4 v' l.length (hcells l)) (hx : ∀ k, v'.ownBlock = some k → k ∉ X) (hI : GInv { x with wl := l, last := n })
    (hu : ∀ j, j < 5 → (if j = i then u else rsvF rT bB gy cy v x.last j) = rsvF rT bB gy cy v' n j) : RSv (w.setCell ⟨sv, i, none⟩ u) X N0 sv rT bB gT gS gD cap gy cy v' { x with wl := l, last := n } := by
  obtain ⟨a1, a2, a3, a4, a5, a6, a7, a8, a9, a10, a11, a12, a13⟩ := h.ne
  have m : Mod [sv] w (w.setCell ⟨sv, i, none⟩ u) := (Mod.refl _ _).setCell (.inl (by simp)) _
  refine ⟨(h.arr.set i u).congr hu, h.tb.mod m (by simpa using Ne.symm a1) (fun z hz => .inr (.inr ?_)), h.bk.mod m (by simpa using Ne.symm a2) (by simpa using Ne.symm a3) (by simpa using Ne.symm a4) (by simpa using Ne.symm a5), own_mod hl m (fun k hk e => h.holds hl k hk (by have := List.mem_singleton.1 e; subst this; simp [RbL])), hx, h.by'.mod m (by simpa using Ne.symm a6), h.n1, h.n2, h.cy8, hI, h.ap⟩
  have e := List.mem_singleton.1 hz
  subst e
  obtain ⟨cs, e, _⟩ := h.arr
  exact ⟨cs, _, e, by decide⟩
/-- Who recovers whom has changed. -/
theorem setY (h : RSv w X N0 sv rT bB gT gS gD cap gy cy v x) {i : Nat} {u : Int} (hI : GInv { x with bb := upd x.bb i u }) : RSv (w.setCell ⟨gy, i, none⟩ (.int .i64 u)) X N0 sv rT bB gT gS gD cap gy cy v { x with bb := upd x.bb i u } := by
  obtain ⟨a1, a2, a3, a4, a5, a6, a7, a8, a9, a10, a11, a12, a13⟩ := h.ne
  have m : Mod [gy] w (w.setCell ⟨gy, i, none⟩ (.int .i64 u)) := (Mod.refl _ _).setCell (.inl (by simp)) _
  refine ⟨h.arr.mod m (by simpa using a6), h.tb.mod m (by simpa using a11) (fun z hz => .inr (.inr ?_)), h.bk.mod m (by simpa using a12) (by simpa using Ne.symm h.n1) (by simpa using Ne.symm h.n2) (by simpa using a13), own_mod h.wt m (fun k hk e => h.holds h.wt k hk (by have := List.mem_singleton.1 e; subst this; simp [RbL])), h.wx, RBk.upd_arr (E := Value.int .i64) h.by' i u, h.n1, h.n2, h.cy8, hI, h.ap⟩
  have e := List.mem_singleton.1 hz
  subst e
  obtain ⟨cs, e, _⟩ := h.by'
  exact ⟨cs, _, e, by decide⟩
end RSv
theorem free_hit {t : Nat → Nat → Nat} {h : HoldT} {L : List HoldT} {o : HoldT} (ho : o ∈ L) (hc : clashB o h = true) : freeT t h L = false := by
  unfold freeT
  rw [show (L.any fun o => clashB o h) = true from List.any_eq_true.2 ⟨o, ho, hc⟩]
  rfl
theorem free_none {t : Nat → Nat → Nat} {h : HoldT} {L : List HoldT} (hc : ∀ o, o ∈ L → clashB o h = false) : freeT t h L = decide ((someL t h.1 h.2.1 (pAg h.2.2.1 h.2.2.2)).length = 0) := by
  unfold freeT
  rw [show (L.any fun o => clashB o h) = false from List.any_eq_false.2 (fun o ho => by rw [hc o ho]; simp)]
  rfl
set_option maxRecDepth 100000 in
set_option maxHeartbeats 4000000 in
theorem rfree_calls (w : World) (X : List Nat) (sv rT : Nat) (t : Nat → Nat → Nat) (h : HoldT) (lv : Value) (L : List HoldT) (h0 : w.cell? ⟨sv, 0, none⟩ = some (.pointer (some ⟨rT, 0, none⟩))) (hT : RTab w X rT t) (hL : Hs w lv L) :
    Calls Tryd.prog 71 #[.pointer (some ⟨sv, 0, none⟩), .agg #[.int .i64 h.1, .int .i64 h.2.1, .int .i64 h.2.2.1, .int .i64 h.2.2.2], lv] w fun e w' => e = .returned (.bool (freeT t h L)) ∧ Mod [] w w' := by
  obtain ⟨p, cap, rfl, hcap, hn, hcell⟩ := hL
  obtain ⟨w1, hw1⟩ : ∃ w1, w1 = w.alloc (.cells #[.int .i64 h.1, .int .i64 h.2.1, .int .i64 h.2.2.1, .int .i64 h.2.2.2] 39) := ⟨_, rfl⟩
  have m1 : Mod [] w w1 := by rw [hw1]; exact (Mod.refl _ _).alloc _
  have A1 : Arr w1 w.heap.size 39 4 (holdF h) := by rw [hw1]; exact hold_new w h
  have k0 := m1.cell' h0 (by simp)
  have HT := Lib.hid (hT.same m1)
  have HW1 := Lib.hid hw1
  have M1 := Lib.hid m1
  have HA1 := Lib.hid A1
  have K0 := Lib.hid k0
  have HC := Lib.hid hcell
  obtain ⟨n, hN⟩ : ∃ n, n = L.length := ⟨_, rfl⟩
  rw [← hN] at hn HC ⊢
  have HN := Lib.hid hN
  have hws : w.heap.size < w1.heap.size := A1.lt
  clear hw1 m1 A1 h0 k0 hT hcell hN
  go_enter Tryd.func71, Tryd.ntmps71
  go_wp2
  rw [← HW1.out]
  go_loopw [7] (fun i wr => ∃ j : Nat, j ≤ n ∧ i = .int .i64 j ∧ Mod [] w1 wr ∧ Hid (∀ q o, q < j → L[q]? = some o → clashB o h = false)) (fun i _ => n - (intOf i).toNat)
  case atStart => exact ⟨0, Nat.zero_le _, rfl, Mod.refl _ _, Lib.hid (fun q o hq => absurd hq (by omega))⟩
  case round =>
    obtain ⟨j, hj, rfl, hM, HQ⟩ := hrel
    by_cases hlt : j < n
    · obtain ⟨g, rfl, hx⟩ := HC.out (by omega)
      have hjL : j < L.length := by rw [← HN.out]; exact hlt
      obtain ⟨y, hh⟩ : ∃ h, L[j]? = some h := ⟨_, List.getElem?_eq_getElem hjL⟩
      obtain ⟨y0, y1, y2, y3⟩ := hx j _ hh
      replace y0 := hM.cell' (M1.out.cell' y0 (by simp)) (by simp)
      replace y1 := hM.cell' (M1.out.cell' y1 (by simp)) (by simp)
      replace y2 := hM.cell' (M1.out.cell' y2 (by simp)) (by simp)
      replace y3 := hM.cell' (M1.out.cell' y3 (by simp)) (by simp)
      have A2 := HA1.out.mod hM (by simp)
      have z0 := A2.cell 0 (by omega)
      have z1 := A2.cell 1 (by omega)
      have z2 := A2.cell 2 (by omega)
      have z3 := A2.cell 3 (by omega)
      simp only [holdF, if_true, if_false, Nat.reduceEqDiff] at z0 z1 z2 z3
      have i0 : (0 : Int) ≤ (j : Int) := by omega
      have i1 : (j : Int) < (n : Int) := by omega
      have KS := Lib.hid (And.intro y0 (And.intro y1 (And.intro y2 (And.intro y3 (And.intro z0 (And.intro z1 (And.intro z2 z3)))))))
      have KSM := Lib.hid (fun w' (m : Mod [] wr.drew w') => And.intro (m.cell' KS.out.1 (by simp)) (And.intro (m.cell' KS.out.2.1 (by simp)) (And.intro (m.cell' KS.out.2.2.1 (by simp)) (And.intro (m.cell' KS.out.2.2.2.1 (by simp)) (And.intro (m.cell' KS.out.2.2.2.2.1 (by simp)) (And.intro (m.cell' KS.out.2.2.2.2.2.1 (by simp)) (And.intro (m.cell' KS.out.2.2.2.2.2.2.1 (by simp)) (m.cell' KS.out.2.2.2.2.2.2.2 (by simp)))))))))
      have HH := Lib.hid hh
      have HM := Lib.hid hM
      obtain ⟨b, hb⟩ : ∃ b, b = clashB y h := ⟨_, rfl⟩
      have HB := Lib.hid hb
      have C := Lib.hid (fun w => (rclash_calls w y h).mono (R' := fun e w' => e = .returned (.bool b) ∧ Mod [] w w') (fun e w' k => ⟨by rw [k.1, hb], k.2⟩))
      clear hx hh hM A2 hb y0 y1 y2 y3 z0 z1 z2 z3
      cases b with
      | true =>
        have F := Lib.hid (free_hit (t := t) (List.mem_of_getElem? HH.out) HB.out.symm)
        go_wp2
        go_region_held3 (fun w' => w'.cell? ⟨g, j * 4, none⟩ = some (.int .i64 y.1) ∧ w'.cell? ⟨g, j * 4 + 1, none⟩ = some (.int .i64 y.2.1) ∧ w'.cell? ⟨g, j * 4 + 2, none⟩ = some (.int .i64 y.2.2.1) ∧ w'.cell? ⟨g, j * 4 + 3, none⟩ = some (.int .i64 y.2.2.2) ∧ w'.cell? ⟨w.heap.size, 0, none⟩ = some (.int .i64 h.1) ∧ w'.cell? ⟨w.heap.size, 1, none⟩ = some (.int .i64 h.2.1) ∧ w'.cell? ⟨w.heap.size, 2, none⟩ = some (.int .i64 h.2.2.1) ∧ w'.cell? ⟨w.heap.size, 3, none⟩ = some (.int .i64 h.2.2.2))
          (first | exact KS.out | exact KSM.out _ (by assumption))
          (first | (go_at_call 28; (with_reducible refine (C.out _).mono ?_); rintro e w2 ⟨rfl, m2⟩))
        have FIN := Lib.hid ((M1.out.trans HM.out).trans (Mod.of_drew m2))
        clear m2
        go_wp2
        go_ret
        exact ⟨by rw [F.out]; rfl, FIN.out⟩
      | false =>
        have HQ' := Lib.hid (fun q o (hq : q < j + 1) (ho : L[q]? = some o) => (by
          rcases Nat.lt_or_ge q j with hl | hl
          · exact HQ.out q o hl ho
          · obtain rfl : q = j := by omega
            rw [HH.out] at ho
            cases ho
            exact HB.out.symm : clashB o h = false))
        clear HQ
        go_wp2
        go_region_held3 (fun w' => w'.cell? ⟨g, j * 4, none⟩ = some (.int .i64 y.1) ∧ w'.cell? ⟨g, j * 4 + 1, none⟩ = some (.int .i64 y.2.1) ∧ w'.cell? ⟨g, j * 4 + 2, none⟩ = some (.int .i64 y.2.2.1) ∧ w'.cell? ⟨g, j * 4 + 3, none⟩ = some (.int .i64 y.2.2.2) ∧ w'.cell? ⟨w.heap.size, 0, none⟩ = some (.int .i64 h.1) ∧ w'.cell? ⟨w.heap.size, 1, none⟩ = some (.int .i64 h.2.1) ∧ w'.cell? ⟨w.heap.size, 2, none⟩ = some (.int .i64 h.2.2.1) ∧ w'.cell? ⟨w.heap.size, 3, none⟩ = some (.int .i64 h.2.2.2))
          (first | exact KS.out | exact KSM.out _ (by assumption))
          (first | (go_at_call 28; (with_reducible refine (C.out _).mono ?_); rintro e w2 ⟨rfl, m2⟩))
        have M2 := Lib.hid (HM.out.trans (Mod.of_drew m2))
        clear m2
        go_wp2
        go_roundw
        case rel => exact ⟨j + 1, by omega, by go_num, M2.out, Lib.hid HQ'.out⟩
        case measure => simp [intOf]; omega
    · obtain rfl : j = n := by omega
      have hlt' : decide ((j : Int) < (j : Int)) = false := by simp
      have F := free_none (t := t) (h := h) (L := L) (fun o ho => by
        obtain ⟨q, hq⟩ := List.getElem?_of_mem ho
        exact HQ.out q o (by rw [HN.out]; exact (List.getElem?_eq_some_iff.1 hq).1) hq)
      have A2 := HA1.out.mod hM (by simp)
      have z0 := A2.cell 0 (by omega)
      have z1 := A2.cell 1 (by omega)
      have z2 := A2.cell 2 (by omega)
      have z3 := A2.cell 3 (by omega)
      simp only [holdF, if_true, if_false, Nat.reduceEqDiff] at z0 z1 z2 z3
      have k0 := hM.cell' K0.out (by simp)
      have KS := Lib.hid (And.intro k0 (And.intro z0 (And.intro z1 (And.intro z2 z3))))
      have KSM := Lib.hid (fun w' (m : Mod [] wr.drew w') => And.intro (m.cell' KS.out.1 (by simp)) (And.intro (m.cell' KS.out.2.1 (by simp)) (And.intro (m.cell' KS.out.2.2.1 (by simp)) (And.intro (m.cell' KS.out.2.2.2.1 (by simp)) (m.cell' KS.out.2.2.2.2 (by simp))))))
      have HM := Lib.hid hM
      have AG := (ragainst_calls wr.drew X rT t h.1 h.2.1 h.2.2.1 h.2.2.2 (HT.out.same (hM.drew)))
      generalize someL t h.1 h.2.1 (pAg h.2.2.1 h.2.2.2) = lg at *
      obtain ⟨ln, hln⟩ : ∃ ln, ln = lg.length := ⟨_, rfl⟩
      have AG := Lib.hid (AG.mono (R' := fun e w' => ∃ p c, e = .returned (.slice p ln c) ∧ Mod [] wr.drew w') (fun e w' k => by
        obtain ⟨v2, k1, k2, k3⟩ := k
        obtain ⟨p2, c2, rfl⟩ := own_len k2
        exact ⟨p2, c2, by rw [k1, hln], k3⟩))
      rw [← hln] at F
      clear hln
      have HF := Lib.hid F
      clear hM A2 k0 z0 z1 z2 z3 F HQ
      by_cases hz : ln = 0
      · have HF2 := Lib.hid (HF.out.trans (decide_eq_true hz))
        have hz1 : ((ln : Int) == 0) = true := by simp; omega
        clear hz
        go_wp2
        go_region_held3 (fun w' => w'.cell? ⟨sv, 0, none⟩ = some (.pointer (some ⟨rT, 0, none⟩)) ∧ w'.cell? ⟨w.heap.size, 0, none⟩ = some (.int .i64 h.1) ∧ w'.cell? ⟨w.heap.size, 1, none⟩ = some (.int .i64 h.2.1) ∧ w'.cell? ⟨w.heap.size, 2, none⟩ = some (.int .i64 h.2.2.1) ∧ w'.cell? ⟨w.heap.size, 3, none⟩ = some (.int .i64 h.2.2.2))
          (first | exact KS.out | exact KSM.out _ (by assumption))
          (first | (go_at_call 73; (with_reducible refine AG.out.mono ?_); rintro e w2 ⟨p2, c2, rfl, m2⟩))
        have FIN := Lib.hid ((M1.out.trans HM.out).trans (Mod.of_drew m2))
        clear m2
        go_wp2
        go_ret
        exact ⟨by rw [HF2.out]; rfl, FIN.out⟩
      · have HF2 := Lib.hid (HF.out.trans (decide_eq_false hz))
        have hz1 : ((ln : Int) == 0) = false := by simp; omega
        clear hz
        go_wp2
        go_region_held3 (fun w' => w'.cell? ⟨sv, 0, none⟩ = some (.pointer (some ⟨rT, 0, none⟩)) ∧ w'.cell? ⟨w.heap.size, 0, none⟩ = some (.int .i64 h.1) ∧ w'.cell? ⟨w.heap.size, 1, none⟩ = some (.int .i64 h.2.1) ∧ w'.cell? ⟨w.heap.size, 2, none⟩ = some (.int .i64 h.2.2.1) ∧ w'.cell? ⟨w.heap.size, 3, none⟩ = some (.int .i64 h.2.2.2))
          (first | exact KS.out | exact KSM.out _ (by assumption))
          (first | (go_at_call 73; (with_reducible refine AG.out.mono ?_); rintro e w2 ⟨p2, c2, rfl, m2⟩))
        have FIN := Lib.hid ((M1.out.trans HM.out).trans (Mod.of_drew m2))
        clear m2
        go_wp2
        go_ret
        exact ⟨by rw [HF2.out]; rfl, FIN.out⟩
end Go.Proofs.YtijjbkkcienfgaaDoor.Rf
