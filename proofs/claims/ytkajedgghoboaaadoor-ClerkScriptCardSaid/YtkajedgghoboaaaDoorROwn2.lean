/- What Got of the document's own answer for a client's lease (weirkeepref16) comes to. The numbers that are known follow one another. -/
import Derived.Test.YtkajedgghoboaaaDoorProg
import Derived.Test.YtkajedgghoboaaaDoorROwn
namespace Go.Proofs.YtkajedgghoboaaaDoor
open Go.RowKit
set_option linter.unusedVariables false
set_option linter.unusedSimpArgs false
attribute [local go_sem ↓] Go.wp_at_zero Go.wp_at_succ

/-- When the number that stands t-th was asked for, among the first k; -1: it is not there. -/
def atV (g : Nat → Int) (t : Int) (k : Nat) : Int := if 1 ≤ t ∧ t ≤ k then g (t - 1).toNat else -1
theorem at_same {g : Nat → Int} {t : Int} {k : Nat} (h : t ≠ k + 1) : atV g t (k + 1) = atV g t k := by
  unfold atV
  by_cases h1 : 1 ≤ t ∧ t ≤ k
  · rw [if_pos h1, if_pos ⟨h1.1, by omega⟩]
  · rw [if_neg h1, if_neg (by omega)]
theorem at_here {g : Nat → Int} {t : Int} {k : Nat} (h : t = k + 1) : atV g t (k + 1) = g k := by
  unfold atV
  rw [if_pos (by omega)]
  congr 1
  omega
theorem cellsL_succ (s g : Nat → Int) (m : Nat) : cellsL s g (m + 1) = cellsL s g m ++ [.int .i64 (s m), .int .i64 (g m)] := by
  unfold cellsL
  rw [show (m + 1) * 2 = m * 2 + 1 + 1 by omega, List.range_succ, List.range_succ, List.map_append, List.map_append, List.append_assoc]
  have e1 : m * 2 % 2 = 0 := by omega
  have e2 : m * 2 / 2 = m := by omega
  have e3 : ¬ (m * 2 + 1) % 2 = 0 := by omega
  have e4 : (m * 2 + 1) / 2 = m := by omega
  simp only [List.map_cons, List.map_nil, cellF, e1, e2, e3, e4, if_true, if_false]
  rfl
structure Found (w wr : World) (n : Nat) (s g : Nat → Int) (t : Int) (k : Nat) (l at' : Value) : Prop where
  row : wr.ownsRow w.heap.size 112 2 l (k - t.toNat) (cellsL (fun i => s (t.toNat + i)) (fun i => g (t.toNat + i)) (k - t.toNat))
  at_ : at' = .int .i64 (atV g t k)
  mod : Mod [] w wr
  sz : w.heap.size ≤ wr.heap.size
theorem lsa_row {w : World} {base N0 m : Nat} {v : Value} {s g : Nat → Int} (h : w.ownsRow base 112 2 v m (cellsL s g m)) (hb : N0 ≤ base) : LsA w v m N0 s g := by
  rcases Nat.eq_zero_or_pos m with h0 | h0
  · subst h0
    obtain ⟨h1, h2 | ⟨g', cap', cur, rfl, hg, hh, hc, hm, r⟩⟩ := h
    · rw [h2.1]
      exact lsa_nil _ _ _ _
    · exact ⟨_, _, rfl, hc, hm, fun h => absurd h (by omega)⟩
  · obtain ⟨k, cap, rfl, hg, hc, hm, ha⟩ := own_arr h h0
    refine ⟨_, _, rfl, hc, hm, fun _ => ⟨k, 0, rfl, by omega, fun i hi => ?_⟩⟩
    have a1 := (ha.cell (i * 2) (by omega)).trans (congrArg some (cells_get s g m (i * 2) (by omega)))
    have a2 := (ha.cell (i * 2 + 1) (by omega)).trans (congrArg some (cells_get s g m (i * 2 + 1) (by omega)))
    have e1 : i * 2 % 2 = 0 := by omega
    have e2 : i * 2 / 2 = i := by omega
    have e3 : ¬ (i * 2 + 1) % 2 = 0 := by omega
    have e4 : (i * 2 + 1) / 2 = i := by omega
    simp only [cellF, e1, e2, e3, e4, if_true, if_false] at a1 a2
    have e5 : 0 + 2 * i = i * 2 := by omega
    have e6 : 0 + 2 * i + 1 = i * 2 + 1 := by omega
    rw [e5]
    exact ⟨a1, a2⟩
def RgotPost (w : World) (b N0 : Nat) (num slack last : Int) (n : Nat) (s g : Nat → Int) (till seq len : Int) (e : Ending) (w' : World) : Prop :=
  if okT len = false then e = .returned (.int .i64 1) ∧ RO w' b N0 num slack last n s g till ∧ Mod [b] w w'
  else if 0 ≤ atV g (seq - (last - n)) n then e = .returned (.int .i64 0) ∧ RO w' b N0 num slack last (n - (seq - (last - n)).toNat) (fun i => s ((seq - (last - n)).toNat + i)) (fun i => g ((seq - (last - n)).toNat + i)) (max till (atV g (seq - (last - n)) n + margV len num slack)) ∧ Mod [b] w w'
  else e = .returned (.int .i64 3) ∧ RO w' b N0 num slack last n s g till ∧ Mod [b] w w'
set_option maxRecDepth 100000 in
set_option maxHeartbeats 1000000 in
theorem roGot_calls (w : World) (b N0 : Nat) (num slack last : Int) (n : Nat) (s g : Nat → Int) (till seq len : Int) (h : RO w b N0 num slack last n s g till) (hn16 : n ≤ 16) (l0 : 0 ≤ last) (l1 : last ≤ 1099511627776)
    (hs : ∀ i, i < n → s i = last - n + 1 + i) (hg : ∀ i, 0 ≤ g i ∧ g i ≤ 1099511627776) (ht0 : -1 ≤ till) (ht1 : till ≤ 2199023255552) :
    Calls Tryd.prog 70 #[.pointer (some ⟨b, 0, none⟩), .int .i64 seq, .int .i64 len] w (RgotPost w b N0 num slack last n s g till seq len) := by
  have T := time16_calls w len
  obtain ⟨v, hA, hL⟩ := h.ex
  have lo := h.lo
  have hi := h.hi
  have hS : ∀ x, x ∈ [b] → x < N0 := by intro x hx; simp at hx; omega
  by_cases h1 : okT len = false
  · have E : RgotPost w b N0 num slack last n s g till seq len (.returned (.int .i64 1)) w := by
      unfold RgotPost
      rw [if_pos h1]
      exact ⟨rfl, h, Mod.refl _ _⟩
    have E' := Lib.hid E
    rw [h1] at T
    have T' := Lib.hid T
    clear T h1 h hA hL hs hg E
    go_enter Tryd.func70, Tryd.ntmps70
    go_wp2_with (go_at_call 80; refine T'.out.mono ?_; rintro e w' ⟨rfl, rfl⟩)
    go_ret
    exact E'.out
  have h1' : okT len = true := by simpa using h1
  rw [h1'] at T
  have T' := Lib.hid T
  have OK := Lib.hid h1
  clear T h1 h1'
  have c3 : w.cell? ⟨b, 3, none⟩ = some v := hA.cell 3 (by omega)
  have hb := hA.lt
  obtain ⟨t, ht⟩ : ∃ t : Int, t = seq - (last - n) := ⟨_, rfl⟩
  have HT := Lib.hid ht
  clear ht
  have HS := Lib.hid hs
  have HG := Lib.hid hg
  have LL := hL
  obtain ⟨A, cap, rfl, q1, q2, q3⟩ := hL
  have q2' : cap ≤ 9223372036854775807 := by unfold maxLen at q2; omega
  have F0 : Found w (w.alloc (.cells #[] 112)) n s g t 0 (.slice (some ⟨w.heap.size, 0, none⟩) 0 0) (.int .i64 (-1)) := by
    refine ⟨?_, ?_, (Mod.refl _ _).alloc _, by simp⟩
    · rw [Nat.zero_sub]
      refine ⟨by simp [cellsL], .inr ⟨w.heap.size, 0, #[], rfl, Nat.le_refl _, heap_alloc_new _ _, by omega, by unfold maxLen; omega, rfl, by simp [cellsL]⟩⟩
    · unfold atV
      rw [if_neg (by omega)]
  clear hs hg h
  go_enter Tryd.func70, Tryd.ntmps70
  go_wp2_with fail
  refine T'.out.mono ?_
  rintro e w' ⟨rfl, rfl⟩
  go_wp2
  go_loopw [7, 8, 9] (fun l a i wr => ∃ k : Nat, k ≤ n ∧ i = .int .i64 k ∧ Found w wr n s g t k l a) (fun _ _ i _ => n - (intOf i).toNat)
  case atStart => exact ⟨0, Nat.zero_le _, rfl, F0⟩
  case round =>
    obtain ⟨k, hkn, rfl, hR, rfl, hM, hsz⟩ := hrel
    clear F0
    have d3 : wr.cell? ⟨b, 3, none⟩ = some (.slice A n cap) := hM.cell' c3 (by simp)
    by_cases hlt : k < n
    · obtain ⟨kb, off, rfl, hkb, hc⟩ := q3 (by omega)
      have y0 := hM.cell' (hc k hlt).1 (by simp)
      have y1 := hM.cell' (hc k hlt).2 (by simp)
      have i0 : (0 : Int) ≤ (k : Int) := by omega
      have i1 : (k : Int) < (n : Int) := by omega
      have hsk := HS.out k hlt
      rw [show off + 2 * k = off + k * 2 by omega] at y0 y1
      clear hc q3
      rcases Int.lt_trichotomy ((k : Int) + 1) t with hh | hh | hh
      · have e1 : (s k == seq) = false := by have ht := HT.out; simp; omega
        have e2 : ¬ seq < s k := by have ht := HT.out; omega
        have hF : Found w wr n s g t (k + 1) u7 (.int .i64 (atV g t k)) := by
          refine ⟨?_, by rw [at_same (by omega)], hM, hsz⟩
          rw [show k + 1 - t.toNat = k - t.toNat by omega]
          exact hR
        clear hsk
        go_wp2
        go_roundw
        case rel => exact ⟨k + 1, by omega, by go_num, hF⟩
        case measure => simp [intOf]; omega
      · have e1 : (s k == seq) = true := by have ht := HT.out; simp; omega
        have e2 : ¬ seq < s k := by have ht := HT.out; omega
        have hF : Found w wr n s g t (k + 1) u7 (.int .i64 (g k)) := by
          refine ⟨?_, by rw [at_here (by omega)], hM, hsz⟩
          rw [show k + 1 - t.toNat = k - t.toNat by omega]
          exact hR
        clear hsk
        go_wp2
        go_roundw
        case rel => exact ⟨k + 1, by omega, by go_num, hF⟩
        case measure => simp [intOf]; omega
      · have e1 : (s k == seq) = false := by have ht := HT.out; simp; omega
        have e2 : seq < s k := by have ht := HT.out; omega
        clear hsk
        have ho1 : (wr.alloc (.cells #[.int .i64 (s k), .int .i64 (g k)] 112)).ownsRow w.heap.size 112 2 u7 (k - t.toNat) (cellsL (fun i => s (t.toNat + i)) (fun i => g (t.toNat + i)) (k - t.toNat)) := own_mod hR ((Mod.refl [] _).alloc _) (by simp)
        have hc0 : ∀ (j : Nat) u, [Value.int .i64 (s k), .int .i64 (g k)][j]? = some u → (wr.alloc (.cells #[.int .i64 (s k), .int .i64 (g k)] 112)).cell? ⟨wr.heap.size, j, none⟩ = some u := by
          intro j u hj
          match j, hj with
          | 0, hj | 1, hj => simp at hj; subst hj; simp
          | j + 2, hj => simp at hj
        go_wp2_with (at_builtin; refine app1 w.heap.size 100 112 (.agg #[.int .i64 0, .int .i64 0]) 2 16 Tryd.underlying100 asked_info rfl (by omega) (by omega) rfl _ _ rfl u7 _ _ rfl ho1 wr.heap.size [.int .i64 (s k), .int .i64 (g k)] rfl rfl hc0 (by simp [Value.oneCell']) (by omega) (by simp; omega) ?_; intro g1 cap1 w3 ho2 hm2 hgg hbg)
        go_roundw
        case rel =>
          have hM3 : Mod [] w w3 := (hM.alloc _).fresh hm2 (fun x hx => .inr (by have := own_lt' hR x (by simpa using hx); omega))
          refine ⟨k + 1, by omega, by go_num, ?_, by rw [at_same (by omega)], hM3, hM3.size⟩
          rw [show k + 1 - t.toNat = (k - t.toNat) + 1 by omega]
          have e4 : t.toNat + (k - t.toNat) = k := by omega
          have e5 : ∀ m, cellsL (fun i => s (t.toNat + i)) (fun i => g (t.toNat + i)) (m + 1) = cellsL (fun i => s (t.toNat + i)) (fun i => g (t.toNat + i)) m ++ [.int .i64 (s (t.toNat + m)), .int .i64 (g (t.toNat + m))] := fun m => cellsL_succ _ _ m
          rw [e5, e4]
          exact ho2
        case measure => simp [intOf]; omega
    · obtain rfl : k = n := by omega
      have ht := HT.out
      have h0 : LsA wr u7 (k - t.toNat) N0 (fun i => s (t.toNat + i)) (fun i => g (t.toNat + i)) := lsa_row hR hi
      obtain ⟨A', cap', hu7, _⟩ := h0
      have h0 : LsA wr u7 (k - t.toNat) N0 (fun i => s (t.toNat + i)) (fun i => g (t.toNat + i)) := lsa_row hR hi
      subst hu7
      have E3 : atV g t k < 0 → RgotPost w b N0 num slack last k s g till seq len (.returned (.int .i64 3)) wr := fun hneg => by
        unfold RgotPost
        rw [if_neg OK.out, ← ht, if_neg (by omega)]
        exact ⟨rfl, ⟨⟨_, hA.mod hM (by simp), LL.mod hM (by simp)⟩, lo, Nat.le_trans hi hsz⟩, hM.nil⟩
      have hAw := hA.mod hM (by simp)
      have bw := hAw.lt
      have ab : atV g t k ≤ 1099511627776 := by
        unfold atV
        split
        · exact (HG.out _).2
        · omega
      have mb := margV_bd len num slack
      have mb0 := mb.1
      have mb1 := mb.2.2
      have hm : ∀ u m : Value, Mod [b] w ((wr.setCell ⟨b, 3, none⟩ u).setCell ⟨b, 4, none⟩ m).drew := fun u m => ((hM.nil.setCell (by simp) u).setCell (by simp) m).drew
      have E0 : 0 ≤ atV g t k → ∀ m : Int, m = max till (atV g t k + margV len num slack) → RgotPost w b N0 num slack last k s g till seq len (.returned (.int .i64 0)) ((wr.setCell ⟨b, 3, none⟩ (.slice A' (k - t.toNat) cap')).setCell ⟨b, 4, none⟩ (.int .i64 m)).drew := fun hpos m hmx => by
        unfold RgotPost
        rw [if_neg OK.out, ← ht, if_pos hpos]
        refine ⟨rfl, ⟨⟨.slice A' (k - t.toNat) cap', ?_, ?_⟩, lo, by have := hsz; simp; omega⟩, hm _ _⟩
        · subst hmx
          exact (((hAw.set 3 (.slice A' (k - t.toNat) cap')).set 4 _).congr fun j hj => by
            match j, hj with
            | 0, _ | 1, _ | 2, _ | 3, _ | 4, _ => rfl
            | n + 5, h => exact absurd h (by omega)).drew
        · exact h0.mod (S := [b]) ((((Mod.refl _ _).setCell (by simp) _).setCell (by simp) _).drew) hS
      have E3' := Lib.hid E3
      have E0' := Lib.hid E0
      have z0 : wr.cell? ⟨b, 0, none⟩ = some (.int .i64 num) := hAw.cell 0 (by omega)
      have z1 : wr.cell? ⟨b, 1, none⟩ = some (.int .i64 slack) := hAw.cell 1 (by omega)
      have z4 : wr.cell? ⟨b, 4, none⟩ = some (.int .i64 till) := hAw.cell 4 (by omega)
      have f3 := hAw.free 3
      have f4 := hAw.free 4
      clear E3 E0 ht hm mb hA hR q3 LL
      generalize hx : atV g t k = x at *
      by_cases hneg : x < 0
      · go_wp2
        go_ret
        exact E3'.out hneg
      · have i1 : (k : Int) ≤ (k : Int) := Int.le_refl _
        have hws : IntKind.i64.wrap (x + margV len num slack) = x + margV len num slack := by rw [IntKind.wrap_i64]; omega
        go_wp2
        go_region_with (first | (go_at_call 81; refine (rmargin_calls _ _ _ _).mono ?_; rintro e w3 ⟨rfl, rfl⟩))
        all_goals go_wp2
        all_goals go_ret
        all_goals exact E0'.out (by omega) _ (by omega)
end Go.Proofs.YtkajedgghoboaaaDoor
