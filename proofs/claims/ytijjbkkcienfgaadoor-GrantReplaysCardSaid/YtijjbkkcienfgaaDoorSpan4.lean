/- The modes of some blocks of a table, set each by what it is (package span). No condition beyond what stands in it. -/
import Derived.Test.YtijjbkkcienfgaaDoorSpan3
namespace Go.Proofs.YtijjbkkcienfgaaDoor
open Go.RowKit
set_option linter.unusedVariables false
set_option linter.unusedSimpArgs false
attribute [local go_sem ↓] Go.wp_at_zero Go.wp_at_succ

def setN (t : Nat → Nat → Nat) (c lo hi : Nat) (g : Nat → Nat) : Nat → Nat → Nat := fun d j => if d = c ∧ lo ≤ j ∧ j < hi then g (t d j) else t d j
def setT (t : Nat → Nat → Nat) (c a b : Int) (g : Nat → Nat) : Nat → Nat → Nat := if inC8 c = true then setN t c.toNat (max a 0).toNat (min b 256).toNat g else t
theorem setN_none (t : Nat → Nat → Nat) (c lo hi : Nat) (g : Nat → Nat) (h : hi ≤ lo) : setN t c lo hi g = t := by
  funext d j
  unfold setN
  rw [if_neg (by omega)]

set_option maxRecDepth 100000 in
set_option maxHeartbeats 4000000 in
theorem set_calls (w : World) (bT gs : Nat) (lbs : Array Value) (t : Nat → Nat → Nat) (c a b : Int) (g : Nat → Nat) (hT : Tb w bT t) (hg2 : ∀ m, m ≤ 2 → g m ≤ 2)
    (heg : ∀ args w, (callFunc gs args).run Tryd.prog w = .ok (.enter gs args) w)
    (hg : ∀ (m : Nat) (w' : World), m ≤ 2 → Mod [bT] w w' → Calls Tryd.prog gs (#[.int .u8 (m : Nat)] ++ lbs) w' fun e w'' => e = .returned (.int .u8 (g m : Nat)) ∧ w' = w'') :
    Calls Tryd.prog 137 #[.pointer (some ⟨bT, 0, none⟩), .int .i64 c, .agg #[.int .i64 a, .int .i64 b], .func (.func gs) #[] lbs] w fun e w' =>
      e = .returned (.tuple #[]) ∧ Tb w' bT (setT t c a b g) ∧ Mod [bT] w w' := by
  by_cases hc : inC8 c = false
  · have e0 : setT t c a b g = t := by unfold setT; rw [hc]; simp
    rw [e0]
    have H := spClient_calls (w.alloc (.cells #[.int .i64 a, .int .i64 b] 23)) c
    rw [hc] at H
    have H' := Lib.hid H
    have HT := Lib.hid (hT.mod ((Mod.refl [] w).alloc (.cells #[.int .i64 a, .int .i64 b] 23)) (by simp))
    clear H hT hg hc
    go_enter Tryd.func137, Tryd.ntmps137
    go_wp2_with (go_at_call 142; refine H'.out.mono ?_; rintro e w' ⟨rfl, rfl⟩)
    refine bodyPost_ret (results_none rfl _ _ _) rfl ?_
    exact ⟨rfl, HT.out, ((Mod.refl _ _).alloc _)⟩
  · have hc' : inC8 c = true := by simpa using hc
    have e0 : setT t c a b g = setN t c.toNat (max a 0).toNat (min b 256).toNat g := by unfold setT; rw [if_pos hc']
    rw [e0]
    have H := spClient_calls (w.alloc (.cells #[.int .i64 a, .int .i64 b] 23)) c
    rw [hc'] at H
    have H' := Lib.hid H
    simp [inC8] at hc
    obtain ⟨ck, rfl, hck⟩ : ∃ ck : Nat, c = ck ∧ ck < 8 := ⟨c.toNat, by omega, by omega⟩
    rw [Int.toNat_natCast]
    obtain ⟨lo, hlo⟩ : ∃ lo : Nat, max a 0 = (lo : Int) := ⟨(max a 0).toNat, by omega⟩
    obtain ⟨hz, hhz⟩ : ∃ hz : Int, min b 256 = hz := ⟨_, rfl⟩
    have hz6 : hz ≤ 256 := by omega
    rw [hlo, hhz, Int.toNat_natCast]
    have HLO := Lib.hid hlo
    have HHZ := Lib.hid hhz
    have hl := hT.lt
    have HG := Lib.hid hg
    have i0 : (0 : Int) ≤ (ck : Int) := by omega
    have i1 : (ck : Int) < 8 := by omega
    clear hlo hhz e0 hc hc' H hg
    go_enter Tryd.func137, Tryd.ntmps137
    go_wp2_with (go_at_call 142; refine H'.out.mono ?_; rintro e w' ⟨rfl, rfl⟩)
    refine (spClip_calls _ _ _).mono ?_
    rintro e w1 ⟨rfl, m1⟩
    rw [HLO.out, HHZ.out]
    have hr0 := Arr.new' w #[.int .i64 a, .int .i64 b] 23 2 (rgF a b) rfl (fun i hi => by
      match i, hi with
      | 0, _ | 1, _ => rfl)
    have hr1 := hr0.mod m1 (by simp)
    have q0 := hr1.cell 0 (by omega)
    have q1 := hr1.cell 1 (by omega)
    have g0 := hr1.free 0
    have g1 := hr1.free 1
    have m2 : Mod [bT] w ((w1.setCell ⟨w.heap.size, 0, none⟩ (.int .i64 (lo : Int))).setCell ⟨w.heap.size, 1, none⟩ (.int .i64 hz)) :=
      ((((Mod.refl [] w).alloc _).trans m1).nil.setCell (.inr (Nat.le_refl _)) _).setCell (.inr (Nat.le_refl _)) _
    have hA2 : Arr ((w1.setCell ⟨w.heap.size, 0, none⟩ (.int .i64 (lo : Int))).setCell ⟨w.heap.size, 1, none⟩ (.int .i64 hz)) w.heap.size 23 2 (rgF lo hz) := ((hr1.set 0 _).set 1 _).congr fun j hj => by
      match j, hj with
      | 0, _ | 1, _ => rfl
    have hT2 : Tb ((w1.setCell ⟨w.heap.size, 0, none⟩ (.int .i64 (lo : Int))).setCell ⟨w.heap.size, 1, none⟩ (.int .i64 hz)) bT (setN t ck lo lo g) := by
      rw [setN_none _ _ _ _ _ (Nat.le_refl _)]
      have h1 : Tb w1 bT t := (hT.mod ((Mod.refl [] w).alloc _) (by simp)).mod m1 (by simp)
      exact ⟨(h1.arr.other (by show w.heap.size ≠ bT; omega) _).other (by show w.heap.size ≠ bT; omega) _, h1.bd⟩
    have HA := Lib.hid hA2
    have HT2 := Lib.hid hT2
    have HM2 := Lib.hid m2
    clear hA2 hT2 m2 hr0 hr1 hT m1
    go_wp2
    clear q0 q1 g0 g1
    go_loopw [8] (fun i wr => ∃ k : Nat, lo ≤ k ∧ (k = lo ∨ (k : Int) ≤ hz) ∧ i = .int .i64 k ∧ Tb wr bT (setN t ck lo k g) ∧ Arr wr w.heap.size 23 2 (rgF lo hz) ∧ Mod [bT] w wr) (fun i _ => 256 - (intOf i).toNat)
    case atStart => exact ⟨lo, Nat.le_refl _, .inl rfl, rfl, HT2.out, HA.out, HM2.out⟩
    case round =>
      obtain ⟨k, hk1, hk2, rfl, hTk, hA, hM⟩ := hrel
      have a1 : wr.cell? ⟨w.heap.size, 1, none⟩ = some (.int .i64 hz) := hA.cell 1 (by omega)
      by_cases hlt : (k : Int) < hz
      · have hk6 : k < 256 := by omega
        have ck1 := hTk.cell ck k hck hk6
        have et : setN t ck lo k g ck k = t ck k := by unfold setN; rw [if_neg (by omega)]
        rw [et] at ck1
        have fk := hTk.arr.free (ck * 256 + k)
        have hb2 : t ck k ≤ 2 := by have := hTk.bd ck k; rw [et] at this; exact this
        have HGk := Lib.hid (HG.out (t ck k) wr.drew hb2 hM.drew)
        have hT3 := hTk.set ck k (g (t ck k)) hck hk6 (hg2 _ hb2)
        have e3 : (fun d j => if d = ck ∧ j = k then g (t ck k) else setN t ck lo k g d j) = setN t ck lo (k + 1) g := by
          funext d j
          unfold setN
          by_cases e : d = ck ∧ j = k
          · rw [if_pos e, if_pos (by omega), e.1, e.2]
          · rw [if_neg e]
            by_cases e2 : d = ck ∧ lo ≤ j ∧ j < k
            · rw [if_pos e2, if_pos (by omega)]
            · rw [if_neg e2, if_neg (by omega)]
        rw [e3] at hT3
        have hne : (⟨bT, ck * 256 + k, none⟩ : Addr).block ≠ w.heap.size := by show bT ≠ w.heap.size; omega
        have FIN := Lib.hid (And.intro (⟨hT3.arr.drew, hT3.bd⟩ : Tb _ bT (setN t ck lo (k + 1) g)) (And.intro (hA.other hne (.int .u8 (g (t ck k) : Nat))).drew ((hM.setCell (.inl (by simp)) (.int .u8 (g (t ck k) : Nat)) : Mod [bT] w (wr.setCell ⟨bT, ck * 256 + k, none⟩ _)).drew)))
        have j0 : (0 : Int) ≤ (k : Int) := by omega
        have j1 : (k : Int) < 256 := by omega
        clear hT3 e3 et hTk hA hM hne
        go_wp2_with fail
        go_region_with (refine HGk.out.mono ?_; rintro e w' ⟨rfl, rfl⟩)
        all_goals go_wp2
        all_goals
          go_roundw
          case rel => exact ⟨k + 1, by omega, .inr (by omega), by go_num, FIN.out⟩
          case measure => simp [intOf]; omega
      · have hd : decide ((k : Int) < hz) = false := by simpa using hlt
        have hkk : setN t ck lo k g = setN t ck lo hz.toNat g := by
          rcases hk2 with h | h
          · rw [h, setN_none _ _ _ _ _ (Nat.le_refl _), setN_none _ _ _ _ _ (by omega)]
          · rw [show hz.toNat = k by omega]
        rw [hkk] at hTk
        have HTk := Lib.hid hTk
        clear hkk hTk
        go_wp2
        go_end0
        exact ⟨rfl, HTk.out, hM⟩
end Go.Proofs.YtijjbkkcienfgaaDoor
