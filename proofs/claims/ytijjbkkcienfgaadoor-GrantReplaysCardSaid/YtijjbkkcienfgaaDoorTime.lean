/- What 'time' of package lease comes to: are all numbers times? No condition. -/
import Derived.Test.YtijjbkkcienfgaaDoorProg
import Derived.Test.YtijjbkkcienfgaaDoorLib
import Derived.Deep.AppendLies
namespace Go.Proofs.YtijjbkkcienfgaaDoor
open Go.RowKit
set_option linter.unusedVariables false
set_option linter.unusedSimpArgs false
attribute [local go_sem ↓] Go.wp_at_zero Go.wp_at_succ

theorem bk_info_int : (Tryd.prog.info? 3).map (fun i => (i.zero, i.size, i.bytes)) = some (some (.int .i64 0), 1, 8) := by kernel_rfl
def okT (n : Int) : Bool := decide (0 ≤ n ∧ n ≤ 1099511627776)
def upd {α : Type} (f : Nat → α) (i : Nat) (v : α) : Nat → α := fun j => if j = i then v else f j
def allT (x : Nat → Int) (n : Nat) : Bool := (List.range n).all fun i => okT (x i)
theorem allT_no {x : Nat → Int} {n k : Nat} (hk : k < n) (h : okT (x k) = false) : allT x n = false := by
  unfold allT
  rw [List.all_eq_false]
  exact ⟨k, by simpa using hk, by simp [h]⟩

set_option maxHeartbeats 400000 in
theorem time_calls (w : World) (g n : Nat) (x : Nat → Int) (hn : n ≤ 1000) (hx : ∀ i, i < n → w.cell? ⟨g, i, none⟩ = some (.int .i64 (x i))) :
    Calls Tryd.prog 141 #[.slice (some ⟨g, 0, none⟩) n n] w fun e w' => e = .returned (.bool (allT x n)) ∧ w = w' := by
  go_enter Tryd.func141, Tryd.ntmps141
  go_wp2
  go_loop [7] (fun i => ∃ k : Nat, k ≤ n ∧ i = .int .i64 k ∧ ∀ j, j < k → okT (x j) = true) (fun i => n - (intOf i).toNat)
  case atStart => exact ⟨0, Nat.zero_le _, rfl, fun _ h => absurd h (by omega)⟩
  case round =>
    obtain ⟨k, hk, rfl, hall⟩ := hrel
    have HA := Lib.hid hall
    clear hall
    by_cases hlt : k < n
    · have hc := hx k hlt
      by_cases h0 : x k < 0
      · have E := Lib.hid (show allT x n = false from allT_no hlt (by simp [okT]; omega))
        go_wp2
        go_ret
        exact ⟨by rw [E.out]; rfl, rfl⟩
      · have hd : decide (x k < 0) = false := by simpa using h0
        by_cases h1 : 1099511627776 < x k
        · have E := Lib.hid (show allT x n = false from allT_no hlt (by simp [okT]; omega))
          go_wp2
          go_ret
          exact ⟨by rw [E.out]; rfl, rfl⟩
        · have hok : okT (x k) = true := by simp [okT]; omega
          have HK := Lib.hid hok
          clear hok
          go_wp2
          go_round
          case rel => exact ⟨k + 1, by omega, by go_num, fun j hj => by
            rcases Nat.lt_or_ge j k with h' | h'
            · exact HA.out j h'
            · rw [show j = k by omega]; exact HK.out⟩
          case measure => simp [intOf]; omega
    · have E := Lib.hid (show allT x n = true by
        unfold allT
        rw [List.all_eq_true]
        exact fun i hi => HA.out i (by have := List.mem_range.1 hi; omega))
      go_wp2
      go_ret
      exact ⟨by rw [E.out]; rfl, rfl⟩
theorem allT2 (a b : Int) : allT (fun i => if i = 0 then a else b) 2 = (okT a && okT b) := by simp [allT, List.range_succ]
theorem allT1 (a : Int) : allT (fun _ => a) 1 = okT a := by simp [allT, List.range_succ]

/-- Behind 'time' of two numbers that the call itself has laid. -/
theorem time2_calls (w : World) (a b : Int) :
    Calls Tryd.prog 141 #[.slice (some ⟨w.heap.size, 0, none⟩) 2 2] (w.alloc (.cells #[.int .i64 a, .int .i64 b] 3)) fun e w' => e = .returned (.bool (okT a && okT b)) ∧ w.alloc (.cells #[.int .i64 a, .int .i64 b] 3) = w' := by
  refine (time_calls _ _ 2 (fun i => if i = 0 then a else b) (by omega) ?_).mono ?_
  · intro i hi
    match i, hi with
    | 0, _ => simp
    | 1, _ => simp
  · rw [allT2]
    exact fun e w' h => h
theorem time1_calls (w : World) (a : Int) :
    Calls Tryd.prog 141 #[.slice (some ⟨w.heap.size, 0, none⟩) 1 1] (w.alloc (.cells #[.int .i64 a] 3)) fun e w' => e = .returned (.bool (okT a)) ∧ w.alloc (.cells #[.int .i64 a] 3) = w' := by
  refine (time_calls _ _ 1 (fun _ => a) (by omega) ?_).mono ?_
  · intro i hi
    obtain rfl : i = 0 := by omega
    simp
  · rw [allT1]
    exact fun e w' h => h

end Go.Proofs.YtijjbkkcienfgaaDoor
