/- The iterator over the runs of a client's row (package span). No condition beyond what stands in it. -/
import Derived.Test.YtijjbkkcienfgaaDoorSpan
namespace Go.Proofs.YtijjbkkcienfgaaDoor
open Go.RowKit Go.Shelf
set_option linter.unusedVariables false
set_option linter.unusedSimpArgs false
attribute [local go_sem] Oper.semAt_some wide_fn
attribute [local go_sem ↓] Go.wp_at_zero Go.wp_at_succ

/-- What an iterator's own world keeps of the world in which it began. -/
def KpFrom (K : Nat → Prop) (W wr : World) : Prop := W.heap.size ≤ wr.heap.size ∧ ∀ k, k < W.heap.size → K k → wr.heap[k]? = W.heap[k]?
theorem KpFrom.mod {K : Nat → Prop} {W wr wr' : World} {S : List Nat} (h : KpFrom K W wr) (m : Mod S wr wr') (hs : ∀ s, s ∈ S → ¬ K s) : KpFrom K W wr' :=
  ⟨Nat.le_trans h.1 m.size, fun k hk hkk => (m.block k (Nat.lt_of_lt_of_le hk h.1) (fun e => hs k e hkk)).trans (h.2 k hk hkk)⟩
theorem KpFrom.kp {K : Nat → Prop} {B : List Nat} {W wr wr' : World} (h : KpFrom K W wr) (m : Kp B K wr wr') : KpFrom K W wr' :=
  ⟨Nat.le_trans h.1 m.1, fun k hk hkk => (m.2 k (Nat.lt_of_lt_of_le hk h.1) (.inr hkk)).trans (h.2 k hk hkk)⟩
theorem KpFrom.cell {K : Nat → Prop} {W wr : World} (h : KpFrom K W wr) {p : Addr} {v : Value} (hc : W.cell? p = some v) (hk : K p.block) : wr.cell? p = some v :=
  (World.cell?_of_block (w := W) (h.2 _ (World.block_lt_of_cell? W _ hc) hk)).trans hc
theorem Kp.arr {K : Nat → Prop} {B : List Nat} {w w' : World} {b : Nat} {T : TypeId} {N : Nat} {f : Nat → Value} (m : Kp B K w w') (h : Arr w b T N f) (hb : b ∈ B) : Arr w' b T N f := by
  have hl := h.lt
  obtain ⟨cs, h1, h2, h3⟩ := h
  exact ⟨cs, (m.2 b hl (.inl hb)).trans h1, h2, h3⟩

def runEnc (x : Run) : Array Value := #[.agg #[.int .i64 x.1, .int .i64 x.2.1], .int .i64 x.2.2]
def RunP (pre : List Run) (x : Run) : Prop := pre.length ≤ 256 ∧ x.1 ≤ 256 ∧ x.2.1 ≤ 256 ∧ x.2.2 ≤ 2
def rgF (a b : Int) (i : Nat) : Value := if i = 0 then .int .i64 a else .int .i64 b

set_option maxRecDepth 100000 in
set_option maxHeartbeats 4000000 in
theorem runs_iter (w : World) (Br Bw bT c : Nat) (a b : Int) (f : Nat → Nat) (hf : ∀ k, f k ≤ 2) (hr : Arr w Br 23 2 (rgF a b)) (hw : w.cell? ⟨Bw, 0, none⟩ = some (.pointer (some ⟨bT, c * 256, none⟩)))
    (ht : ∀ k, k < 256 → w.cell? ⟨bT, c * 256 + k, none⟩ = some (.int .u8 (f k : Nat))) (n1 : Br ≠ Bw) (n2 : Br ≠ bT) :
    Iter Tryd.prog 83 #[.pointer (some ⟨Br, 0, none⟩), .pointer (some ⟨Bw, 0, none⟩)] runEnc (fun k => k = bT ∨ k = Bw) (fun xs => xs = runsL f (max a 0).toNat ((min b 256).toNat - (max a 0).toNat)) (fun _ => True) RunP [Br] w := by
  intro l J Jx W hmW hclo hR h0
  have hrW := hr.mod hmW (by simp)
  have hwW : W.cell? ⟨Bw, 0, none⟩ = some (.pointer (some ⟨bT, c * 256, none⟩)) := hmW.cell' hw (by simp)
  have htW : ∀ k, k < 256 → W.cell? ⟨bT, c * 256 + k, none⟩ = some (.int .u8 (f k : Nat)) := fun k hk => hmW.cell' (ht k hk) (by simp)
  clear hr hw ht hmW
  have r0 : W.cell? ⟨Br, 0, none⟩ = some (.int .i64 a) := hrW.cell 0 (by omega)
  have r1 : W.cell? ⟨Br, 1, none⟩ = some (.int .i64 b) := hrW.cell 1 (by omega)
  obtain ⟨lo, hlo⟩ : ∃ lo : Nat, max a 0 = (lo : Int) := ⟨(max a 0).toNat, by omega⟩
  obtain ⟨hz, hhz⟩ : ∃ hz : Int, min b 256 = hz := ⟨_, rfl⟩
  have hz6 : hz ≤ 256 := by omega
  rw [hlo, hhz, Int.toNat_natCast]
  have HLO := Lib.hid hlo
  have HHZ := Lib.hid hhz
  clear hlo hhz
  by_cases hlt : (lo : Int) < hz
  · obtain ⟨hi, rfl⟩ : ∃ hi : Nat, hz = (hi : Int) := ⟨hz.toNat, by omega⟩
    rw [Int.toNat_natCast]
    have hlh : lo < hi := by omega
    have hhi : hi ≤ 256 := by omega
    clear hlt hz6
    refine callsIn_of_wp Tryd.func83 rfl trivial ?_ rfl
    refine wpIn_wide.2 ?_
    simp only [Tryd.ntmps83, List.size_toArray, List.length_cons, List.length_nil, Nat.reduceAdd, Nat.reduceSub, Array.replicate_succ, Array.replicate_zero, List.push_toArray, List.append_toArray, List.nil_append, List.cons_append]
    go_wp2_with fail
    refine (spClip_calls _ _ _).mono ?_
    rintro e w1 ⟨rfl, m1⟩
    rw [HLO.out, HHZ.out]
    have hr1 := hrW.mod m1 (by simp)
    have q0 := hr1.cell 0 (by omega)
    have q1 := hr1.cell 1 (by omega)
    have g0 := hr1.free 0
    have g1 := hr1.free 1
    have m2 : Mod [Br] W ((w1.setCell ⟨Br, 0, none⟩ (.int .i64 (lo : Int))).setCell ⟨Br, 1, none⟩ (.int .i64 (hi : Int))) := ((m1.nil).setCell (by simp) _).setCell (by simp) _
    have hA2 : Arr ((w1.setCell ⟨Br, 0, none⟩ (.int .i64 (lo : Int))).setCell ⟨Br, 1, none⟩ (.int .i64 (hi : Int))) Br 23 2 (rgF lo hi) := ((hr1.set 0 _).set 1 _).congr fun j hj => by
      match j, hj with
      | 0, _ | 1, _ => rfl
    have hJ2 : J [] [Br] ((w1.setCell ⟨Br, 0, none⟩ (.int .i64 (lo : Int))).setCell ⟨Br, 1, none⟩ (.int .i64 (hi : Int))) := hclo _ _ _ _ _ h0 m2 (fun _ h => h) (fun _ h => .inl h)
    have hK2 : KpFrom (fun k => k = bT ∨ k = Bw) W ((w1.setCell ⟨Br, 0, none⟩ (.int .i64 (lo : Int))).setCell ⟨Br, 1, none⟩ (.int .i64 (hi : Int))) := KpFrom.mod ⟨Nat.le_refl _, fun _ _ _ => rfl⟩ m2 (by simp; omega)
    have HA := Lib.hid hA2
    have HJ := Lib.hid hJ2
    have HK := Lib.hid hK2
    clear hA2 hJ2 hK2 m2 hr1 hrW r0 r1 h0
    go_wp2
    clear q0 q1 g0 g1 m1
    go_loopw [4] (fun i wr => ∃ k : Nat, lo ≤ k ∧ k ≤ hi ∧ i = .int .i64 k ∧ Hid (k = lo ∨ k = hi ∨ f (k - 1) ≠ f k) ∧ J (runsL f lo (k - lo)) [Br] wr ∧ Arr wr Br 23 2 (rgF lo hi) ∧ KpFrom (fun k => k = bT ∨ k = Bw) W wr) (fun i _ => hi - (intOf i).toNat)
    case atStart => exact ⟨lo, Nat.le_refl _, by omega, rfl, Lib.hid (.inl rfl), by rw [Nat.sub_self]; exact HJ.out, HA.out, HK.out⟩
    case round =>
      obtain ⟨k, hk1, hk2, rfl, hcut, hJ, hA, hK⟩ := hrel
      have a1 : wr.cell? ⟨Br, 1, none⟩ = some (.int .i64 hi) := hA.cell 1 (by omega)
      have cw : wr.cell? ⟨Bw, 0, none⟩ = some (.pointer (some ⟨bT, c * 256, none⟩)) := hK.cell hwW (.inr rfl)
      by_cases hlt : k < hi
      · have ck : wr.cell? ⟨bT, c * 256 + k, none⟩ = some (.int .u8 (f k : Nat)) := hK.cell (htW k (by omega)) (.inl rfl)
        have i0 : (0 : Int) ≤ (k : Int) := by omega
        have i1 : (k : Int) < 256 := by omega
        have hs0 : k - lo = 0 ∨ f (lo + (k - lo) - 1) ≠ f (lo + (k - lo)) := by
          rw [show lo + (k - lo) = k by omega]
          rcases hcut.out with h | h | h
          · exact .inl (by omega)
          · omega
          · exact .inr h
        have HS := Lib.hid hs0
        clear hs0 hcut
        go_wp2
        obtain ⟨wo, rfl⟩ : ∃ wo : World, wo = wr := ⟨_, rfl⟩
        go_loopw [4] (fun i ww => ∃ (e : Nat), k ≤ e ∧ e ≤ hi ∧ i = .int .i64 e ∧ Hid (∀ j, k ≤ j → j < e → f j = f k) ∧ J (runsL f lo (k - lo)) [Br] ww ∧ Arr ww Br 23 2 (rgF lo hi) ∧ KpFrom (fun k => k = bT ∨ k = Bw) W ww) (fun i _ => hi - (intOf i).toNat)
        case atStart => exact ⟨k, Nat.le_refl _, by omega, rfl, Lib.hid (fun j h1 h2 => absurd h1 (by omega)), hJ, hA, hK⟩
        case round =>
          obtain ⟨e, he1, he2, rfl, heq, hJe, hAe, hKe⟩ := hrel
          clear hJ hA hK a1 cw ck
          have a1 : wr.cell? ⟨Br, 1, none⟩ = some (.int .i64 hi) := hAe.cell 1 (by omega)
          have cw : wr.cell? ⟨Bw, 0, none⟩ = some (.pointer (some ⟨bT, c * 256, none⟩)) := hKe.cell hwW (.inr rfl)
          have ck : wr.cell? ⟨bT, c * 256 + k, none⟩ = some (.int .u8 (f k : Nat)) := hKe.cell (htW k (by omega)) (.inl rfl)
          have j0 : (0 : Int) ≤ (e : Int) := by omega
          by_cases hgo : e < hi ∧ f e = f k
          · obtain ⟨hlt2, hfe⟩ := hgo
            have ce : wr.cell? ⟨bT, c * 256 + e, none⟩ = some (.int .u8 (f k : Nat)) := by
              have := hKe.cell (htW e (by omega)) (.inl rfl)
              rwa [hfe] at this
            have j1 : (e : Int) < 256 := by omega
            have j2 : (e : Int) < (hi : Int) := by omega
            have HE := Lib.hid hfe
            clear hfe
            go_wp2_with fail
            go_quiet (fail)
            go_wp2
            go_roundw
            case rel => exact ⟨e + 1, by omega, by omega, by go_num, Lib.hid (fun j h1 h2 => by
              rcases Nat.lt_or_ge j e with h | h
              · exact heq.out j h1 h
              · rw [show j = e by omega]; exact HE.out), hclo _ _ _ _ _ hJe ((Mod.refl _ _).drewN _) (fun _ h => h) (fun _ h => .inl h), hAe.drewN _, hKe.mod ((Mod.refl [] _).drewN _) (by simp)⟩
            case measure => simp [intOf]; omega
          · have hke : k < e := by
              rcases Nat.lt_or_ge k e with h | h
              · exact h
              · exact absurd ⟨by omega, by rw [show e = k by omega]⟩ hgo
            have hcut2 : e = lo ∨ e = hi ∨ f (e - 1) ≠ f e := by
              rcases Nat.lt_or_ge e hi with h | h
              · exact .inr (.inr (by rw [heq.out (e - 1) (by omega) (by omega)]; exact fun h2 => hgo ⟨h, h2.symm⟩))
              · exact .inr (.inl (by omega))
            have hst := runsL_stretch HS.out (e - k - 1) (fun i hi2 => by
              rw [show lo + (k - lo) + i = k + i by omega, show lo + (k - lo) = k by omega]
              exact heq.out (k + i) (by omega) (by omega))
            rw [show k - lo + (e - k - 1) + 1 = e - lo by omega, show lo + (k - lo) + (e - k - 1) + 1 = e by omega, show lo + (k - lo) = k by omega] at hst
            have HC := Lib.hid hcut2
            have HT := Lib.hid hst
            clear hcut2 hst
            have hex : decide (e < hi) = false ∨ (e < hi ∧ f e ≠ f k) := by
              rcases Nat.lt_or_ge e hi with h | h
              · exact .inr ⟨h, fun h2 => hgo ⟨h, h2⟩⟩
              · exact .inl (by simp; omega)
            go_wp2_with fail
            go_cut [31] from 15 to 31 (fun s31 wx => s31 = .bool false ∧ J (runsL f lo (k - lo)) [Br] wx ∧ Arr wx Br 23 2 (rgF lo hi) ∧ KpFrom (fun k => k = bT ∨ k = Bw) W wx)
            case first =>
              have keep : ∀ n, J (runsL f lo (k - lo)) [Br] (wr.drewN n) ∧ Arr (wr.drewN n) Br 23 2 (rgF lo hi) ∧ KpFrom (fun k => k = bT ∨ k = Bw) W (wr.drewN n) := fun n =>
                ⟨hclo _ _ _ _ _ hJe ((Mod.refl _ _).drewN _) (fun _ h => h) (fun _ h => .inl h), hAe.drewN _, hKe.mod ((Mod.refl [] _).drewN _) (by simp)⟩
              have KEEP := Lib.hid keep
              clear keep
              rcases hex with hd | ⟨hd, hne⟩
              · go_quiet (fail)
                go_wp2
                go_meet
                exact ⟨rfl, KEEP.out _⟩
              · have ce : wr.cell? ⟨bT, c * 256 + e, none⟩ = some (.int .u8 (f e : Nat)) := hKe.cell (htW e (by omega)) (.inl rfl)
                have j1 : (e : Int) < 256 := by omega
                have hne' : (((f e : Nat) : Int) == ((f k : Nat) : Int)) = false := by simp; omega
                clear hne
                go_quiet (fail)
                go_wp2
                go_meet
                exact ⟨rfl, KEEP.out _⟩
            case rest =>
              obtain ⟨rfl, hJ6, hA6, hK6⟩ := hcut
              clear hJe hAe hKe a1 cw ck hex
              have cw : wc.cell? ⟨Bw, 0, none⟩ = some (.pointer (some ⟨bT, c * 256, none⟩)) := hK6.cell hwW (.inr rfl)
              have ck : wc.cell? ⟨bT, c * 256 + k, none⟩ = some (.int .u8 (f k : Nat)) := hK6.cell (htW k (by omega)) (.inl rfl)
              by_cases hz : f k = 0
              · have hz' : decide (0 < f k) = false := by simp; omega
                have HZ := Lib.hid hz
                clear hz
                go_wp2
                go_roundw
                case rel => exact ⟨e, by omega, by omega, rfl, HC, by rw [HT.out, if_pos HZ.out]; exact hJ6, hA6, hK6⟩
                case measure => simp [intOf]; omega
              · have hz' : 0 < f k := by omega
                have hf2 := hf k
                have hb0 : (0 : Int) ≤ ((f k : Nat) : Int) := by omega
                have hb1 : ((f k : Nat) : Int) ≤ 2 := by omega
                have hlen := runsL_len (f := f) (lo := lo) (k - lo)
                obtain ⟨fn, tmps, assign, body, hy, hRd⟩ := hR (runsL f lo (k - lo)) [Br] (k, e, f k) wc hJ6 ⟨by omega, by show k ≤ 256; omega, by show e ≤ 256; omega, hf2⟩
                unfold runEnc at hy
                dsimp only at hy
                have HZ := Lib.hid hz
                clear hz hlen
                go_upto_region 6 with (fail)
                refine (wpIn_wide (n := 0)).1 ?_
                gi_wp2
                refine ⟨rfl, hRd.mono ?_⟩
                rintro e4 W4 (⟨rfl, hJ4, hk4⟩ | ⟨rfl, hJx4⟩)
                · clear hy hRd
                  gi_wp2
                  go_wp2
                  go_roundw
                  case rel => exact ⟨e, by omega, by omega, rfl, HC, by rw [HT.out, if_neg HZ.out]; exact hJ4, hk4.arr hA6 (by simp), hK6.kp hk4⟩
                  case measure => simp [intOf]; omega
                · gi_wp2
                  go_wp2
                  refine bodyPost_ret (results_none rfl _ _ _) rfl ?_
                  exact ⟨⟨_, rfl⟩, .inr ⟨_, trivial, hJx4⟩⟩
      · obtain rfl : k = hi := by omega
        have hd : decide (k < k) = false := by simp
        go_wp2
        go_end0
        first | exact ⟨⟨_, rfl⟩, .inl ⟨_, _, rfl, hJ⟩⟩ | exact ⟨⟨_, rfl⟩, .inl ⟨_, hJ⟩⟩
  · have h0e : hz.toNat - lo = 0 := by omega
    rw [h0e]
    have hlt' : decide ((lo : Int) < hz) = false := by simpa using hlt
    refine callsIn_of_wp Tryd.func83 rfl trivial ?_ rfl
    refine wpIn_wide.2 ?_
    simp only [Tryd.ntmps83, List.size_toArray, List.length_cons, List.length_nil, Nat.reduceAdd, Nat.reduceSub, Array.replicate_succ, Array.replicate_zero, List.push_toArray, List.append_toArray, List.nil_append, List.cons_append]
    go_wp2_with fail
    refine (spClip_calls _ _ _).mono ?_
    rintro e w1 ⟨rfl, m1⟩
    rw [HLO.out, HHZ.out]
    have hr1 := hrW.mod m1 (by simp)
    have q0 := hr1.cell 0 (by omega)
    have q1 := hr1.cell 1 (by omega)
    have g0 := hr1.free 0
    have g1 := hr1.free 1
    have m2 : Mod [Br] W ((w1.setCell ⟨Br, 0, none⟩ (.int .i64 (lo : Int))).setCell ⟨Br, 1, none⟩ (.int .i64 hz)) := ((m1.nil).setCell (by simp) _).setCell (by simp) _
    have hJ2 : J [] [Br] ((w1.setCell ⟨Br, 0, none⟩ (.int .i64 (lo : Int))).setCell ⟨Br, 1, none⟩ (.int .i64 hz)) := hclo _ _ _ _ _ h0 m2 (fun _ h => h) (fun _ h => .inl h)
    have hA2 : Arr ((w1.setCell ⟨Br, 0, none⟩ (.int .i64 (lo : Int))).setCell ⟨Br, 1, none⟩ (.int .i64 hz)) Br 23 2 (rgF lo hz) := ((hr1.set 0 _).set 1 _).congr fun j hj => by
      match j, hj with
      | 0, _ | 1, _ => rfl
    have a1 : ((w1.setCell ⟨Br, 0, none⟩ (.int .i64 (lo : Int))).setCell ⟨Br, 1, none⟩ (.int .i64 hz)).cell? ⟨Br, 1, none⟩ = some (.int .i64 hz) := hA2.cell 1 (by omega)
    have HJ := Lib.hid hJ2
    have HA := Lib.hid a1
    clear hJ2 m2 hr1 hrW r0 r1 h0 hA2 a1
    go_wp2
    clear q0 q1 g0 g1 m1
    go_loopw [4] (fun i wr => i = .int .i64 lo ∧ J [] [Br] wr ∧ wr.cell? ⟨Br, 1, none⟩ = some (.int .i64 hz)) (fun _ _ => 0)
    case atStart => exact ⟨rfl, HJ.out, HA.out⟩
    case round =>
      obtain ⟨rfl, hJ, a1⟩ := hrel
      go_wp2
      go_end0
      first | exact ⟨⟨_, rfl⟩, .inl ⟨_, _, rfl, hJ⟩⟩ | exact ⟨⟨_, rfl⟩, .inl ⟨_, hJ⟩⟩
end Go.Proofs.YtijjbkkcienfgaaDoor
