/- A row's ways added up (clock.ways.add). No condition beyond what stands in it. -/
import Derived.Test.YtdaapkbgfabmaaaFair
namespace Go.Proofs.Ytdaapkbgfabmaaa
open Go.RowKit
set_option linter.unusedVariables false
set_option linter.unusedSimpArgs false
attribute [local go_sem ↓] Go.wp_at_zero Go.wp_at_succ

def waysA (f : Nat → Int) : Array Value := #[.int .i64 (f 0), .int .i64 (f 1), .int .i64 (f 2), .int .i64 (f 3), .int .i64 (f 4), .int .i64 (f 5), .int .i64 (f 6), .int .i64 (f 7)]
def rowW (n : Nat) (x : Nat → Int) (j : Nat) : Int := if j < n then clampV (x j) 1048576 else 0
def addW (n : Nat) (x f : Nat → Int) (j : Nat) : Int := f j + rowW n x j
def addK (n : Nat) (x f : Nat → Int) (k j : Nat) : Int := if j < k then addW n x f j else f j

theorem arr8 {w : World} {b : Nat} {T : TypeId} {f : Nat → Int} (h : Arr w b T 8 (fun j => .int .i64 (f j))) :
    w.cell? ⟨b, 0, none⟩ = some (.int .i64 (f 0)) ∧ w.cell? ⟨b, 1, none⟩ = some (.int .i64 (f 1)) ∧ w.cell? ⟨b, 2, none⟩ = some (.int .i64 (f 2)) ∧ w.cell? ⟨b, 3, none⟩ = some (.int .i64 (f 3)) ∧
    w.cell? ⟨b, 4, none⟩ = some (.int .i64 (f 4)) ∧ w.cell? ⟨b, 5, none⟩ = some (.int .i64 (f 5)) ∧ w.cell? ⟨b, 6, none⟩ = some (.int .i64 (f 6)) ∧ w.cell? ⟨b, 7, none⟩ = some (.int .i64 (f 7)) :=
  ⟨h.cell 0 (by omega), h.cell 1 (by omega), h.cell 2 (by omega), h.cell 3 (by omega), h.cell 4 (by omega), h.cell 5 (by omega), h.cell 6 (by omega), h.cell 7 (by omega)⟩
theorem arr8_new (w : World) (T : TypeId) (f : Nat → Int) : Arr (w.alloc (.cells (waysA f) T)) w.heap.size T 8 (fun j => .int .i64 (f j)) :=
  Arr.new' w (waysA f) T 8 _ rfl (fun i hi => by
    match i, hi with
    | 0, _ | 1, _ | 2, _ | 3, _ | 4, _ | 5, _ | 6, _ | 7, _ => rfl
    | n + 8, h => exact absurd h (by omega))
/-- Eight cells stored, one by one. -/
def put8 (w : World) (b : Nat) (f : Nat → Int) : World :=
  (((((((w.setCell ⟨b, 0, none⟩ (.int .i64 (f 0))).setCell ⟨b, 1, none⟩ (.int .i64 (f 1))).setCell ⟨b, 2, none⟩ (.int .i64 (f 2))).setCell ⟨b, 3, none⟩ (.int .i64 (f 3))).setCell ⟨b, 4, none⟩ (.int .i64 (f 4))).setCell ⟨b, 5, none⟩ (.int .i64 (f 5))).setCell ⟨b, 6, none⟩ (.int .i64 (f 6))).setCell ⟨b, 7, none⟩ (.int .i64 (f 7))
theorem put8_mod (w : World) (b : Nat) (f : Nat → Int) : Mod [b] w (put8 w b f) := by
  unfold put8
  exact ((((((((Mod.refl _ w).setCell (by simp) _).setCell (by simp) _).setCell (by simp) _).setCell (by simp) _).setCell (by simp) _).setCell (by simp) _).setCell (by simp) _).setCell (by simp) _
theorem put8_arr {w : World} {b : Nat} {T : TypeId} {f0 : Nat → Value} (h : Arr w b T 8 f0) (f : Nat → Int) : Arr (put8 w b f) b T 8 (fun j => .int .i64 (f j)) := by
  unfold put8
  refine ((((((((h.set 0 _).set 1 _).set 2 _).set 3 _).set 4 _).set 5 _).set 6 _).set 7 _).congr fun i hi => ?_
  match i, hi with
  | 0, _ | 1, _ | 2, _ | 3, _ | 4, _ | 5, _ | 6, _ | 7, _ => rfl
  | n + 8, h => exact absurd h (by omega)

set_option maxHeartbeats 2000000 in
theorem add_lo (w : World) (v : Value) (n : Nat) (x f : Nat → Int) (h : IRow w v n x) (hf : ∀ j, 0 ≤ f j ∧ f j ≤ 1099511627776) (hN : n ≤ 8) :
    Calls Try.prog 63 #[.agg (waysA f), v] w fun e w' => e = .returned (.agg (waysA (addW n x f))) ∧ Mod [] w w' := by
  obtain ⟨A, cap, rfl, h2, h3, h4⟩ := h.ex
  unfold maxLen at h3
  have H8 := arr8_new w 91 f
  have H4 := H8.alloc (.cells #[.int .i64 0, .int .i64 0, .int .i64 0, .int .i64 0, .int .i64 0, .int .i64 0, .int .i64 0, .int .i64 0] 91)
  have HZ := arr8_new (w.alloc (.cells (waysA f) 91)) 91 (fun _ => 0)
  have hm : Mod [] w ((w.alloc (.cells (waysA f) 91)).alloc (.cells (waysA (fun _ => 0)) 91)) := ((Mod.refl _ _).alloc _).alloc _
  rw [World.size_alloc] at HZ
  unfold waysA at H4 HZ hm
  clear H8
  go_enter Try.func63, Try.ntmps63
  unfold waysA
  go_wp2
  go_loopw [13] (fun i wr => ∃ k : Nat, k ≤ n ∧ i = .int .i64 k ∧ Arr wr w.heap.size 91 8 (fun j => .int .i64 (addK n x f k j)) ∧ Arr wr (w.heap.size + 1) 91 8 (fun j => .int .i64 ((fun _ => 0) j)) ∧ Mod [] w wr) (fun i _ => n - (intOf i).toNat)
  case atStart => exact ⟨0, Nat.zero_le _, rfl, H4.congr (fun j _ => by simp [addK]), HZ, hm⟩
  case round =>
    obtain ⟨k, hk, rfl, hA, hZ, hM⟩ := hrel
    clear H4 HZ hm
    by_cases hlt : k < n
    · obtain ⟨rb, ro, rfl, rc⟩ := h4 (by omega)
      have hk8 : k < 8 := by omega
      have hkn : k < n := by omega
      have rck := rc k hkn
      have hrb := World.block_lt_of_cell? w _ rck
      have hc : wr.cell? ⟨rb, ro + k, none⟩ = some (.int .i64 (x k)) := hM.cell' rck (by simp)
      have ca : wr.cell? ⟨w.heap.size, k, none⟩ = some (.int .i64 (f k)) := by
        rw [hA.cell k hk8]
        simp [addK]
      have fa := hA.free k
      have i0 : (0 : Int) ≤ (k : Int) := by omega
      have i1 : (k : Int) < 8 := by omega
      have i2 : (k : Int) < (n : Int) := by omega
      have cb := clampV_bd (x k) 1048576 (by omega)
      have c0 := cb.1
      have c1 := cb.2
      have f0 := (hf k).1
      have f1 := (hf k).2
      have hA2 := hA.set k (.int .i64 (f k + clampV (x k) 1048576))
      have hA3 : Arr (wr.setCell ⟨w.heap.size, k, none⟩ (.int .i64 (f k + clampV (x k) 1048576))) w.heap.size 91 8 (fun j => .int .i64 (addK n x f (k + 1) j)) := hA2.congr (fun j _ => by
        by_cases e : j = k
        · subst e
          simp [addK, addW, rowW, hkn]
        · have : j < k + 1 ↔ j < k := by omega
          simp [addK, e, this])
      have hZ2 := hZ.other (p := ⟨w.heap.size, k, none⟩) (by simp) (.int .i64 (f k + clampV (x k) 1048576))
      have hM2 : Mod [] w (wr.setCell ⟨w.heap.size, k, none⟩ (.int .i64 (f k + clampV (x k) 1048576))) := hM.setCell (by simp) _
      have G := Lib.hid (And.intro hA3.drew (And.intro hZ2.drew hM2.drew))
      clear rc h4 hA hZ hA2 hA3 hZ2 hM2 cb hM hf
      go_wp2
      go_region_with (go_at_call 52; refine (clamp_calls _ _ _).mono ?_; rintro e w' ⟨rfl, rfl⟩)
      all_goals go_wp2
      all_goals
        go_roundw
        case rel => exact ⟨k + 1, by omega, by go_num, G.out⟩
        case measure => simp [intOf]; omega
    · have hkN : n ≤ k := by omega
      have hA' : Arr wr w.heap.size 91 8 (fun j => .int .i64 (addW n x f j)) := hA.congr (fun j hj => by
        unfold addK addW rowW
        by_cases e : j < k
        · rw [if_pos e]
        · have : ¬ j < n := by omega
          simp [e, this])
      obtain ⟨a0, a1, a2, a3, a4, a5, a6, a7⟩ := arr8 hA'
      obtain ⟨z0, z1, z2, z3, z4, z5, z6, z7⟩ := arr8 hZ
      have fz := fun i => hZ.free i
      have E := Lib.hid (put8_arr hZ (addW n x f))
      have M := Lib.hid (hM.fresh (put8_mod wr (w.heap.size + 1) (addW n x f)) (by simp))
      clear hA hA' hZ hM h4
      go_wp2
      obtain ⟨p0, p1, p2, p3, p4, p5, p6, p7⟩ := arr8 E.out
      show bodyPost Try.prog Try.f63 _ _ _ (put8 wr (w.heap.size + 1) (addW n x f))
      have M' := M.out
      generalize put8 wr (w.heap.size + 1) (addW n x f) = W3 at *
      exact bodyPost_ret (v := .agg (waysA (addW n x f))) (by simp [results, Try.results63, go_sem, p0, p1, p2, p3, p4, p5, p6, p7, waysA]) rfl ⟨rfl, M'⟩
set_option maxHeartbeats 2000000 in
theorem add_hi (w : World) (v : Value) (n : Nat) (x f : Nat → Int) (h : IRow w v n x) (hf : ∀ j, 0 ≤ f j ∧ f j ≤ 1099511627776) (hN : 8 < n) :
    Calls Try.prog 63 #[.agg (waysA f), v] w fun e w' => e = .returned (.agg (waysA (addW n x f))) ∧ Mod [] w w' := by
  obtain ⟨A, cap, rfl, h2, h3, h4⟩ := h.ex
  unfold maxLen at h3
  have H8 := arr8_new w 91 f
  have H4 := H8.alloc (.cells #[.int .i64 0, .int .i64 0, .int .i64 0, .int .i64 0, .int .i64 0, .int .i64 0, .int .i64 0, .int .i64 0] 91)
  have HZ := arr8_new (w.alloc (.cells (waysA f) 91)) 91 (fun _ => 0)
  have hm : Mod [] w ((w.alloc (.cells (waysA f) 91)).alloc (.cells (waysA (fun _ => 0)) 91)) := ((Mod.refl _ _).alloc _).alloc _
  rw [World.size_alloc] at HZ
  unfold waysA at H4 HZ hm
  clear H8
  go_enter Try.func63, Try.ntmps63
  unfold waysA
  go_wp2
  go_loopw [13] (fun i wr => ∃ k : Nat, k ≤ 8 ∧ i = .int .i64 k ∧ Arr wr w.heap.size 91 8 (fun j => .int .i64 (addK n x f k j)) ∧ Arr wr (w.heap.size + 1) 91 8 (fun j => .int .i64 ((fun _ => 0) j)) ∧ Mod [] w wr) (fun i _ => 8 - (intOf i).toNat)
  case atStart => exact ⟨0, Nat.zero_le _, rfl, H4.congr (fun j _ => by simp [addK]), HZ, hm⟩
  case round =>
    obtain ⟨k, hk, rfl, hA, hZ, hM⟩ := hrel
    clear H4 HZ hm
    by_cases hlt : k < 8
    · obtain ⟨rb, ro, rfl, rc⟩ := h4 (by omega)
      have hk8 : k < 8 := by omega
      have hkn : k < n := by omega
      have rck := rc k hkn
      have hrb := World.block_lt_of_cell? w _ rck
      have hc : wr.cell? ⟨rb, ro + k, none⟩ = some (.int .i64 (x k)) := hM.cell' rck (by simp)
      have ca : wr.cell? ⟨w.heap.size, k, none⟩ = some (.int .i64 (f k)) := by
        rw [hA.cell k hk8]
        simp [addK]
      have fa := hA.free k
      have i0 : (0 : Int) ≤ (k : Int) := by omega
      have i1 : (k : Int) < 8 := by omega
      have i2 : (k : Int) < (8 : Int) := by omega
      have cb := clampV_bd (x k) 1048576 (by omega)
      have c0 := cb.1
      have c1 := cb.2
      have f0 := (hf k).1
      have f1 := (hf k).2
      have hA2 := hA.set k (.int .i64 (f k + clampV (x k) 1048576))
      have hA3 : Arr (wr.setCell ⟨w.heap.size, k, none⟩ (.int .i64 (f k + clampV (x k) 1048576))) w.heap.size 91 8 (fun j => .int .i64 (addK n x f (k + 1) j)) := hA2.congr (fun j _ => by
        by_cases e : j = k
        · subst e
          simp [addK, addW, rowW, hkn]
        · have : j < k + 1 ↔ j < k := by omega
          simp [addK, e, this])
      have hZ2 := hZ.other (p := ⟨w.heap.size, k, none⟩) (by simp) (.int .i64 (f k + clampV (x k) 1048576))
      have hM2 : Mod [] w (wr.setCell ⟨w.heap.size, k, none⟩ (.int .i64 (f k + clampV (x k) 1048576))) := hM.setCell (by simp) _
      have G := Lib.hid (And.intro hA3.drew (And.intro hZ2.drew hM2.drew))
      clear rc h4 hA hZ hA2 hA3 hZ2 hM2 cb hM hf
      go_wp2
      go_region_with (go_at_call 52; refine (clamp_calls _ _ _).mono ?_; rintro e w' ⟨rfl, rfl⟩)
      all_goals go_wp2
      all_goals
        go_roundw
        case rel => exact ⟨k + 1, by omega, by go_num, G.out⟩
        case measure => simp [intOf]; omega
    · have hkN : 8 ≤ k := by omega
      have hA' : Arr wr w.heap.size 91 8 (fun j => .int .i64 (addW n x f j)) := hA.congr (fun j hj => by
        unfold addK addW rowW
        by_cases e : j < k
        · rw [if_pos e]
        · have : ¬ j < n := by omega
          simp [e, this])
      obtain ⟨a0, a1, a2, a3, a4, a5, a6, a7⟩ := arr8 hA'
      obtain ⟨z0, z1, z2, z3, z4, z5, z6, z7⟩ := arr8 hZ
      have fz := fun i => hZ.free i
      have E := Lib.hid (put8_arr hZ (addW n x f))
      have M := Lib.hid (hM.fresh (put8_mod wr (w.heap.size + 1) (addW n x f)) (by simp))
      clear hA hA' hZ hM h4
      go_wp2
      obtain ⟨p0, p1, p2, p3, p4, p5, p6, p7⟩ := arr8 E.out
      show bodyPost Try.prog Try.f63 _ _ _ (put8 wr (w.heap.size + 1) (addW n x f))
      have M' := M.out
      generalize put8 wr (w.heap.size + 1) (addW n x f) = W3 at *
      exact bodyPost_ret (v := .agg (waysA (addW n x f))) (by simp [results, Try.results63, go_sem, p0, p1, p2, p3, p4, p5, p6, p7, waysA]) rfl ⟨rfl, M'⟩
theorem add_calls (w : World) (v : Value) (n : Nat) (x f : Nat → Int) (h : IRow w v n x) (hf : ∀ j, 0 ≤ f j ∧ f j ≤ 1099511627776) :
    Calls Try.prog 63 #[.agg (waysA f), v] w fun e w' => e = .returned (.agg (waysA (addW n x f))) ∧ Mod [] w w' := by
  rcases Nat.lt_or_ge 8 n with h8 | h8
  · exact add_hi w v n x f h hf h8
  · exact add_lo w v n x f h hf h8
end Go.Proofs.Ytdaapkbgfabmaaa
