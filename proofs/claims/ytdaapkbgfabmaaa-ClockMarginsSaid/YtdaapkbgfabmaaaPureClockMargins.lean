/- For every input the law ClockMargins answers true: more lease is no less margin, more drift or slack no more, without either it is the lease; no condition. -/
import Derived.Test.YtdaapkbgfabmaaaPClockMarginsx1
namespace Go.Proofs.Ytdaapkbgfabmaaa.Pure
open Go.RowKit Go.Proofs.Ytdaapkbgfabmaaa.PClockMargins Go.Proofs.YtdaapkbgfabmaaaW.PrintWords Go.Proofs.YtdaapkbgfabmaaaW.PrintLast

/-- The margin in plain words. -/
def M (l d s : Int) : Int := if l < s then 0 else (100 * (l - s)) / (100 + d)

theorem wr {n : Int} (h : -9223372036854775808 ≤ n) (h' : n ≤ 9223372036854775807) : wrap64 n = n := by unfold wrap64; omega

theorem M_core (l d s : Int) (hl : 0 ≤ l) (hl' : l ≤ 4294967296) (hd : 0 ≤ d) (hs : 0 ≤ s) (hs' : s ≤ 1000) :
    mx 0 (wrap64 (Int.tdiv (100 * (l - s)) (100 + d))) = M l d s := by
  unfold M
  by_cases h : l < s
  · rw [if_pos h]
    have h1 : (100 * (l - s)).tdiv (100 + d) = -((100 * (s - l)) / (100 + d)) := by
      rw [show 100 * (l - s) = -(100 * (s - l)) by omega, Int.neg_tdiv, Int.tdiv_eq_ediv_of_nonneg (by omega)]
    have h0 : 0 ≤ (100 * (s - l)) / (100 + d) := Int.ediv_nonneg (by omega) (by omega)
    have h2 : (100 * (s - l)) / (100 + d) ≤ 100 * (s - l) := Int.ediv_le_self _ (by omega)
    rw [h1, wr (by omega) (by omega)]
    unfold mx; split <;> omega
  · rw [if_neg h, Int.tdiv_eq_ediv_of_nonneg (by omega)]
    have h0 : 0 ≤ (100 * (l - s)) / (100 + d) := Int.ediv_nonneg (by omega) (by omega)
    have h1 : (100 * (l - s)) / (100 + d) ≤ 100 * (l - s) := Int.ediv_le_self _ (by omega)
    rw [wr (by omega) (by omega)]
    unfold mx; split <;> omega

theorem mn_id {a b : Int} (h : a ≤ b) : mn a b = a := by unfold mn; rw [if_neg (by omega)]
theorem mx_id {a : Int} (h : 0 ≤ a) : mx 0 a = a := by unfold mx; split <;> omega

theorem margin_some (l d s : Int) (hl : 0 ≤ l) (hl' : l ≤ 4294967296) (hd : 0 ≤ d) (hd' : d ≤ 1000) (hs : 0 ≤ s) (hs' : s ≤ 1000) :
    clock_Margin.f l d s = some (M l d s) := by
  unfold clock_Margin.f clock_clamp.f
  simp only [Option.bind_some]
  rw [mn_id (show l ≤ 1099511627776 by omega), mn_id (show s ≤ 1048576 by omega), mn_id (show d ≤ 1000 by omega), mx_id hl, mx_id hs, mx_id hd,
    wr (n := 100 + d) (by omega) (by omega), wr (n := l - s) (by omega) (by omega), wr (n := 100 * (l - s)) (by omega) (by omega), if_neg (by omega), M_core l d s hl hl' hd hs hs']

theorem ref_some (l d s : Int) (hl : 0 ≤ l) (hl' : l ≤ 4294967296) (hd : 0 ≤ d) (hd' : d ≤ 1000) (hs : 0 ≤ s) (hs' : s ≤ 1000) :
    weirkeepref05_Margin.f l d s = some (M l d s) := by
  unfold weirkeepref05_Margin.f weirkeepref05_clamp.f
  simp only [Option.bind_some]
  rw [mn_id (show l ≤ 1099511627776 by omega), mn_id (show s ≤ 1048576 by omega), mn_id (show d ≤ 1000 by omega), mx_id hl, mx_id hs, mx_id hd,
    wr (n := 100 + d) (by omega) (by omega), wr (n := 100 * l) (by omega) (by omega), wr (n := 100 * s) (by omega) (by omega), if_neg (by omega),
    show 100 * l - 100 * s = 100 * (l - s) by omega, wr (n := 100 * (l - s)) (by omega) (by omega), M_core l d s hl hl' hd hs hs']

theorem M_lease {a b d s : Int} (hab : a ≤ b) (hd : 0 ≤ d) : M a d s ≤ M b d s := by
  unfold M
  split
  · split
    · omega
    · exact Int.ediv_nonneg (by omega) (by omega)
  · rw [if_neg (by omega)]
    exact Int.ediv_le_ediv (by omega) (by omega)

theorem M_slack {l d s e : Int} (he : 0 ≤ e) (hd : 0 ≤ d) : M l d (s + e) ≤ M l d s := by
  unfold M
  split
  · split
    · omega
    · exact Int.ediv_nonneg (by omega) (by omega)
  · rw [if_neg (by omega)]
    exact Int.ediv_le_ediv (by omega) (by omega)

theorem M_drift {l d s e : Int} (he : 0 ≤ e) (hd : 0 ≤ d) : M l (d + e) s ≤ M l d s := by
  unfold M
  split
  · omega
  · apply Int.le_ediv_of_mul_le (by omega)
    have h0 : 0 ≤ (100 * (l - s)) / (100 + (d + e)) := Int.ediv_nonneg (by omega) (by omega)
    have h1 := Int.ediv_mul_le (100 * (l - s)) (b := 100 + (d + e)) (by omega)
    refine Int.le_trans (Int.mul_le_mul_of_nonneg_left (show 100 + d ≤ 100 + (d + e) by omega) h0) h1

theorem M_le {l d s : Int} (hl : 0 ≤ l) (hd : 0 ≤ d) (hs : 0 ≤ s) : M l d s ≤ l := by
  unfold M
  split
  · omega
  · apply Int.ediv_le_of_le_mul (by omega)
    have := Int.mul_nonneg hl hd
    rw [Int.mul_add]
    omega

theorem M_zero {l : Int} (hl : 0 ≤ l) : M l 0 0 = l := by
  unfold M
  rw [if_neg (by omega)]
  omega

theorem ClockMargins : weirkeeplaw05_ClockMargins.Pure := by
  intro a0 a1 a2 a3 a4 w0 w1 w2 w3 w4
  have b0 : 0 ≤ a0 ∧ a0 ≤ 4294967295 := by simpa [Lit.wf, IntKind.has, IntKind.min, IntKind.max, IntKind.signed, IntKind.bits] using w0
  have b1 : 0 ≤ a1 ∧ a1 ≤ 4294967295 := by simpa [Lit.wf, IntKind.has, IntKind.min, IntKind.max, IntKind.signed, IntKind.bits] using w1
  have b2 : 0 ≤ a2 ∧ a2 ≤ 255 := by simpa [Lit.wf, IntKind.has, IntKind.min, IntKind.max, IntKind.signed, IntKind.bits] using w2
  have b3 : 0 ≤ a3 ∧ a3 ≤ 255 := by simpa [Lit.wf, IntKind.has, IntKind.min, IntKind.max, IntKind.signed, IntKind.bits] using w3
  have b4 : 0 ≤ a4 ∧ a4 ≤ 255 := by simpa [Lit.wf, IntKind.has, IntKind.min, IntKind.max, IntKind.signed, IntKind.bits] using w4
  have n1 : 0 ≤ mn a0 a1 ∧ mn a0 a1 ≤ 4294967295 := by unfold mn; split <;> omega
  have n2 : mn a0 a1 ≤ mx a0 a1 ∧ mx a0 a1 ≤ 4294967295 := by unfold mn mx; split <;> split <;> omega
  refine ⟨1, ?_⟩
  unfold weirkeeplaw05_ClockMargins.f
  generalize mn a0 a1 = lo at *
  generalize mx a0 a1 = hi at *
  rw [wr (n := lo) (by omega) (by omega), wr (n := hi) (by omega) (by omega), wr (n := a2) (by omega) (by omega), wr (n := a3) (by omega) (by omega), wr (n := a4) (by omega) (by omega),
    wr (n := a2 + a4) (by omega) (by omega), wr (n := a3 + a4) (by omega) (by omega)]
  rw [margin_some lo a2 a3 (by omega) (by omega) (by omega) (by omega) (by omega) (by omega), Option.bind_some,
    margin_some hi a2 a3 (by omega) (by omega) (by omega) (by omega) (by omega) (by omega), Option.bind_some,
    margin_some lo (a2 + a4) a3 (by omega) (by omega) (by omega) (by omega) (by omega) (by omega), Option.bind_some,
    margin_some lo a2 (a3 + a4) (by omega) (by omega) (by omega) (by omega) (by omega) (by omega), Option.bind_some]
  have h1 := M_lease (d := a2) (s := a3) n2.1 b2.1
  have h2 := M_drift (l := lo) (d := a2) (s := a3) b4.1 b2.1
  have h3 := M_slack (l := lo) (d := a2) (s := a3) b4.1 b2.1
  have h4 := M_le (l := lo) (d := a2) (s := a3) n1.1 b2.1 b3.1
  rw [if_neg (by omega), if_neg (by omega), decide_eq_false (by omega)]
  simp only [weirkeeplaw05_ClockMargins.j0]
  rw [wr (n := a2) (by omega) (by omega), wr (n := a3) (by omega) (by omega), if_neg (by simp), if_pos h4,
    margin_some lo 0 0 (by omega) (by omega) (by omega) (by omega) (by omega) (by omega), Option.bind_some, if_pos (M_zero n1.1),
    ref_some lo a2 a3 (by omega) (by omega) (by omega) (by omega) (by omega) (by omega), Option.bind_some, if_pos rfl,
    margin_some 10 0 0 (by omega) (by omega) (by omega) (by omega) (by omega) (by omega), Option.bind_some, M_zero (by omega)]
  rfl
end Go.Proofs.Ytdaapkbgfabmaaa.Pure
