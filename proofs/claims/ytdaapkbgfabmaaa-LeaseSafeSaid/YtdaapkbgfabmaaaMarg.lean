/- What the margin of a lease comes to, of the program and of the document: one number. No condition. -/
import Derived.Test.YtdaapkbgfabmaaaProg
import Derived.Test.YtdaapkbgfabmaaaLib
namespace Go.Proofs.Ytdaapkbgfabmaaa
open Go.RowKit
set_option linter.unusedVariables false
set_option linter.unusedSimpArgs false
attribute [local go_sem ↓] Go.wp_at_zero Go.wp_at_succ

def clampV (n most : Int) : Int := max 0 (min n most)
theorem clampV_bd (n most : Int) (h : 0 ≤ most) : 0 ≤ clampV n most ∧ clampV n most ≤ most := by unfold clampV; omega
def margV (lease num slack : Int) : Int := max 0 (Int.tdiv (100 * (clampV lease 1099511627776 - clampV slack 1048576)) (100 + clampV num 1000))

theorem tdiv_bd (a b : Int) (hb : 0 < b) : (0 ≤ a → 0 ≤ a.tdiv b ∧ a.tdiv b ≤ a) ∧ (a ≤ 0 → a ≤ a.tdiv b ∧ a.tdiv b ≤ 0) := by
  constructor
  · intro h
    rw [Int.tdiv_eq_ediv_of_nonneg h]
    exact ⟨Int.ediv_nonneg h (by omega), Int.ediv_le_self _ h⟩
  · intro h
    have e : a.tdiv b = -((-a).tdiv b) := by rw [Int.neg_tdiv, Int.neg_neg]
    rw [e, Int.tdiv_eq_ediv_of_nonneg (by omega)]
    have h1 : 0 ≤ (-a) / b := Int.ediv_nonneg (by omega) (by omega)
    have h2 : (-a) / b ≤ -a := Int.ediv_le_self _ (by omega)
    omega
theorem margV_bd (l d s : Int) : 0 ≤ margV l d s ∧ margV l d s ≤ clampV l 1099511627776 ∧ margV l d s ≤ 1099511627776 := by
  have h1 := clampV_bd l 1099511627776 (by omega)
  have h2 := clampV_bd s 1048576 (by omega)
  have h3 := clampV_bd d 1000 (by omega)
  unfold margV
  generalize clampV l 1099511627776 = x at *
  generalize clampV s 1048576 = y at *
  generalize clampV d 1000 = z at *
  rcases Int.le_total 0 (100 * (x - y)) with h | h
  · have e : (100 * (x - y)).tdiv (100 + z) ≤ x := by
      rw [Int.tdiv_eq_ediv_of_nonneg h]
      apply Int.ediv_le_of_le_mul (by omega)
      have := Int.mul_nonneg h1.1 h3.1
      rw [Int.mul_add]
      omega
    omega
  · have := (tdiv_bd (100 * (x - y)) (100 + z) (by omega)).2 h
    omega

theorem clamp_calls (w : World) (n most : Int) :
    Calls Try.prog 52 #[.int .i64 n, .int .i64 most] w fun e w' => e = .returned (.int .i64 (clampV n most)) ∧ w = w' := by
  have key : ∀ m : Int, max 0 (min n most) = m → Ending.returned (.int .i64 m) = .returned (.int .i64 (clampV n most)) := fun m h => by rw [← h]; rfl
  go_enter Try.func52, Try.ntmps52
  go_wp2
  all_goals (go_ret; exact ⟨key _ (by omega), rfl⟩)
theorem rclamp_calls (w : World) (n most : Int) :
    Calls Try.prog 53 #[.int .i64 n, .int .i64 most] w fun e w' => e = .returned (.int .i64 (clampV n most)) ∧ w = w' := by
  have key : ∀ m : Int, max 0 (min n most) = m → Ending.returned (.int .i64 m) = .returned (.int .i64 (clampV n most)) := fun m h => by rw [← h]; rfl
  go_enter Try.func53, Try.ntmps53
  go_wp2
  all_goals (go_ret; exact ⟨key _ (by omega), rfl⟩)

set_option maxHeartbeats 400000 in
theorem margin_calls (w : World) (l d s : Int) :
    Calls Try.prog 14 #[.int .i64 l, .int .i64 d, .int .i64 s] w fun e w' => e = .returned (.int .i64 (margV l d s)) ∧ w = w' := by
  have h1 := clampV_bd l 1099511627776 (by omega)
  have h2 := clampV_bd s 1048576 (by omega)
  have h3 := clampV_bd d 1000 (by omega)
  have h4 := tdiv_bd (100 * (clampV l 1099511627776 - clampV s 1048576)) (100 + clampV d 1000) (by omega)
  have b1 := h1.1
  have b2 := h1.2
  have b3 := h2.1
  have b4 := h2.2
  have b5 := h3.1
  have b6 := h3.2
  have lo : -9223372036854775808 ≤ Int.tdiv (100 * (clampV l 1099511627776 - clampV s 1048576)) (100 + clampV d 1000) := by
    rcases Int.le_total 0 (100 * (clampV l 1099511627776 - clampV s 1048576)) with h | h
    · have := h4.1 h; omega
    · have := h4.2 h; omega
  have hi : Int.tdiv (100 * (clampV l 1099511627776 - clampV s 1048576)) (100 + clampV d 1000) ≤ 9223372036854775807 := by
    rcases Int.le_total 0 (100 * (clampV l 1099511627776 - clampV s 1048576)) with h | h
    · have := h4.1 h; omega
    · have := h4.2 h; omega
  have key : ∀ m : Int, max 0 (Int.tdiv (100 * (clampV l 1099511627776 - clampV s 1048576)) (100 + clampV d 1000)) = m → Ending.returned (.int .i64 m) = .returned (.int .i64 (margV l d s)) := fun m h => by rw [← h]; rfl
  have K := Lib.hid key
  have nz : (100 + clampV d 1000 == 0) = false := by simp; omega
  clear h1 h2 h3 h4 key
  go_enter Try.func14, Try.ntmps14
  go_wp2_with (go_at_call 52; refine (clamp_calls _ _ _).mono ?_; rintro e w' ⟨rfl, rfl⟩)
  all_goals (go_ret; exact ⟨K.out _ (by omega), rfl⟩)
set_option maxHeartbeats 400000 in
theorem rmargin_calls (w : World) (l d s : Int) :
    Calls Try.prog 15 #[.int .i64 l, .int .i64 d, .int .i64 s] w fun e w' => e = .returned (.int .i64 (margV l d s)) ∧ w = w' := by
  have h1 := clampV_bd l 1099511627776 (by omega)
  have h2 := clampV_bd s 1048576 (by omega)
  have h3 := clampV_bd d 1000 (by omega)
  have h4 := tdiv_bd (100 * clampV l 1099511627776 - 100 * clampV s 1048576) (100 + clampV d 1000) (by omega)
  have b1 := h1.1
  have b2 := h1.2
  have b3 := h2.1
  have b4 := h2.2
  have b5 := h3.1
  have b6 := h3.2
  have lo : -9223372036854775808 ≤ Int.tdiv (100 * clampV l 1099511627776 - 100 * clampV s 1048576) (100 + clampV d 1000) := by
    rcases Int.le_total 0 (100 * clampV l 1099511627776 - 100 * clampV s 1048576) with h | h
    · have := h4.1 h; omega
    · have := h4.2 h; omega
  have hi : Int.tdiv (100 * clampV l 1099511627776 - 100 * clampV s 1048576) (100 + clampV d 1000) ≤ 9223372036854775807 := by
    rcases Int.le_total 0 (100 * clampV l 1099511627776 - 100 * clampV s 1048576) with h | h
    · have := h4.1 h; omega
    · have := h4.2 h; omega
  have key : ∀ m : Int, max 0 (Int.tdiv (100 * clampV l 1099511627776 - 100 * clampV s 1048576) (100 + clampV d 1000)) = m → Ending.returned (.int .i64 m) = .returned (.int .i64 (margV l d s)) := fun m h => by rw [← h]; unfold margV; rw [Int.mul_sub]
  have K := Lib.hid key
  have nz : (100 + clampV d 1000 == 0) = false := by simp; omega
  clear h1 h2 h3 h4 key
  go_enter Try.func15, Try.ntmps15
  go_wp2_with (go_at_call 53; refine (rclamp_calls _ _ _).mono ?_; rintro e w' ⟨rfl, rfl⟩)
  all_goals (go_ret; exact ⟨K.out _ (by omega), rfl⟩)
end Go.Proofs.Ytdaapkbgfabmaaa
