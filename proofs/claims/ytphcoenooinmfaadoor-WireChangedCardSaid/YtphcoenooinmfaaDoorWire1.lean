/- Package wire's Check and Encode, and the document's: what they come to. Premises: the message lies in memory; the table of steps holds what its initialiser lays. -/
import Derived.Test.YtphcoenooinmfaaDoorWireP
import Derived.Deep.DeepCutAuto
namespace Go.Proofs.YtphcoenooinmfaaDoor
open Go.RowKit
set_option linter.unusedVariables false
set_option linter.unusedSimpArgs false
attribute [local go_sem ↓] Go.wp_at_zero Go.wp_at_succ

theorem new_cellN (W : World) (cs : Array Value) (e : TypeId) (k i : Nat) (v : Value) (hk : W.heap.size = k) (hv : cs[i]? = some v) : (W.alloc (.cells cs e)).cell? ⟨k, i, none⟩ = some v := by
  subst hk
  rw [← hv]
  simp
theorem in_calls (w : World) (x most : Int) (b : Bool) (hb : inB x most = b) :
    Calls Tryd.prog 74 #[.int .i64 x, .int .i64 most] w fun e w' => e = .returned (.bool b) ∧ w = w' := by
  subst hb
  unfold inB
  by_cases h0 : 0 ≤ x
  · have t1 : decide (0 ≤ x) = true := by simpa using h0
    rw [t1]
    simp only [Bool.true_and]
    clear h0
    go_enter Tryd.func74, Tryd.ntmps74
    go_wp2
    go_ret
    exact ⟨rfl, rfl⟩
  · have t1 : decide (0 ≤ x) = false := by simpa using h0
    rw [t1]
    simp only [Bool.false_and]
    clear h0
    go_enter Tryd.func74, Tryd.ntmps74
    go_wp2
    go_ret
    exact ⟨rfl, rfl⟩
theorem within1 (w : World) (g : Nat) (x most : Int) (h : w.cell? ⟨g, 0, none⟩ = some (.int .i64 x)) (b : Bool) (hb : inB x most = b) :
    Calls Tryd.prog 58 #[.int .i64 most, .slice (some ⟨g, 0, none⟩) 1 1] w fun e w' => e = .returned (.bool b) ∧ w = w' := by
  subst hb
  unfold inB
  by_cases h0 : x < 0
  · have t1 : decide (x < 0) = true := by simpa using h0
    have t2 : decide (0 ≤ x) = false := by simp; omega
    rw [t2]
    simp only [Bool.false_and]
    clear h0 t2
    go_enter Tryd.func58, Tryd.ntmps58
    go_wp2
    refine wp_loop_rounds 1 ?_
    rw [rounds_succ]
    go_wp2
    go_ret
    exact ⟨rfl, rfl⟩
  · have t1 : decide (x < 0) = false := by simpa using h0
    have t2 : decide (0 ≤ x) = true := by simp; omega
    rw [t2]
    simp only [Bool.true_and]
    clear h0 t2
    by_cases h1 : most < x
    · have t3 : decide (most < x) = true := by simpa using h1
      have t4 : decide (x ≤ most) = false := by simp; omega
      rw [t4]
      clear h1 t4
      go_enter Tryd.func58, Tryd.ntmps58
      go_wp2
      refine wp_loop_rounds 1 ?_
      rw [rounds_succ]
      go_wp2
      go_ret
      exact ⟨rfl, rfl⟩
    · have t3 : decide (most < x) = false := by simpa using h1
      have t4 : decide (x ≤ most) = true := by simp; omega
      rw [t4]
      clear h1 t4
      go_enter Tryd.func58, Tryd.ntmps58
      go_wp2
      refine wp_loop_rounds 2 ?_
      rw [rounds_succ]
      go_wp2
      rw [rounds_succ]
      go_wp2
      go_ret
      exact ⟨rfl, rfl⟩
theorem within2 (w : World) (g : Nat) (x y most : Int) (h : w.cell? ⟨g, 0, none⟩ = some (.int .i64 x)) (h' : w.cell? ⟨g, 1, none⟩ = some (.int .i64 y)) (b : Bool) (hb : (inB x most && inB y most) = b) :
    Calls Tryd.prog 58 #[.int .i64 most, .slice (some ⟨g, 0, none⟩) 2 2] w fun e w' => e = .returned (.bool b) ∧ w = w' := by
  subst hb
  unfold inB
  by_cases h0 : x < 0
  · have t1 : decide (x < 0) = true := by simpa using h0
    have t2 : decide (0 ≤ x) = false := by simp; omega
    rw [t2]
    simp only [Bool.false_and]
    clear h0 t2
    go_enter Tryd.func58, Tryd.ntmps58
    go_wp2
    refine wp_loop_rounds 1 ?_
    rw [rounds_succ]
    go_wp2
    go_ret
    exact ⟨rfl, rfl⟩
  have t1 : decide (x < 0) = false := by simpa using h0
  have t2 : decide (0 ≤ x) = true := by simp; omega
  rw [t2]
  simp only [Bool.true_and]
  clear h0 t2
  by_cases h1 : most < x
  · have t3 : decide (most < x) = true := by simpa using h1
    have t4 : decide (x ≤ most) = false := by simp; omega
    rw [t4]
    simp only [Bool.false_and]
    clear h1 t4
    go_enter Tryd.func58, Tryd.ntmps58
    go_wp2
    refine wp_loop_rounds 1 ?_
    rw [rounds_succ]
    go_wp2
    go_ret
    exact ⟨rfl, rfl⟩
  have t3 : decide (most < x) = false := by simpa using h1
  have t4 : decide (x ≤ most) = true := by simp; omega
  rw [t4]
  simp only [Bool.true_and]
  clear h1 t4
  by_cases h2 : y < 0
  · have u1 : decide (y < 0) = true := by simpa using h2
    have u2 : decide (0 ≤ y) = false := by simp; omega
    rw [u2]
    simp only [Bool.false_and]
    clear h2 u2
    go_enter Tryd.func58, Tryd.ntmps58
    go_wp2
    refine wp_loop_rounds 2 ?_
    rw [rounds_succ]
    go_wp2
    rw [rounds_succ]
    go_wp2
    go_ret
    exact ⟨rfl, rfl⟩
  have u1 : decide (y < 0) = false := by simpa using h2
  have u2 : decide (0 ≤ y) = true := by simp; omega
  rw [u2]
  simp only [Bool.true_and]
  clear h2 u2
  by_cases h3 : most < y
  · have u3 : decide (most < y) = true := by simpa using h3
    have u4 : decide (y ≤ most) = false := by simp; omega
    rw [u4]
    clear h3 u4
    go_enter Tryd.func58, Tryd.ntmps58
    go_wp2
    refine wp_loop_rounds 2 ?_
    rw [rounds_succ]
    go_wp2
    rw [rounds_succ]
    go_wp2
    go_ret
    exact ⟨rfl, rfl⟩
  · have u3 : decide (most < y) = false := by simpa using h3
    have u4 : decide (y ≤ most) = true := by simp; omega
    rw [u4]
    clear h3 u4
    go_enter Tryd.func58, Tryd.ntmps58
    go_wp2
    refine wp_loop_rounds 3 ?_
    rw [rounds_succ]
    go_wp2
    rw [rounds_succ]
    go_wp2
    rw [rounds_succ]
    go_wp2
    go_ret
    exact ⟨rfl, rfl⟩
set_option maxRecDepth 100000 in
set_option maxHeartbeats 4000000 in
theorem wcheck_calls (w : World) (m : Msg) :
    Calls Tryd.prog 33 #[.agg m.arr] w fun e w' => e = .returned (.int .i64 m.chk) ∧ Mod [] w w' := by
  obtain ⟨b1, h1⟩ : ∃ b, inB (m.x 0) 255 = b := ⟨_, rfl⟩
  obtain ⟨b2, h2⟩ : ∃ b, (inB (m.x 1) 7 && inB (m.x 2) 7) = b := ⟨_, rfl⟩
  obtain ⟨b3, h3⟩ : ∃ b, (inB (m.x 3) 1099511627776 && inB (m.x 4) 1099511627776) = b := ⟨_, rfl⟩
  obtain ⟨b4, h4⟩ : ∃ b, (inB (m.x 5) 256 && inB (m.x 6) 256) = b := ⟨_, rfl⟩
  have hok : m.numsOk = (b1 && b2 && b3 && b4) := by unfold Msg.numsOk; rw [h1, h2, h3, h4]
  have hc : m.chk = if (b1 && b2 && b3 && b4) = false then 1 else if 1024 < m.d.size then 11 else 0 := by unfold Msg.chk; rw [hok]
  have HC := Lib.hid hc
  obtain ⟨x, d⟩ := m
  unfold Msg.arr
  simp only at h1 h2 h3 h4 HC ⊢
  generalize x 0 = x0 at *
  generalize x 1 = x1 at *
  generalize x 2 = x2 at *
  generalize x 3 = x3 at *
  generalize x 4 = x4 at *
  generalize x 5 = x5 at *
  generalize x 6 = x6 at *
  have H1 := Lib.hid h1
  have H2 := Lib.hid h2
  have H3 := Lib.hid h3
  have H4 := Lib.hid h4
  obtain ⟨w0, hw0⟩ : ∃ w0, w0 = w.alloc (.cells #[.int .i64 x0, .int .i64 x1, .int .i64 x2, .int .i64 x3, .int .i64 x4, .int .i64 x5, .int .i64 x6, .string d] 62) := ⟨_, rfl⟩
  clear h1 h2 h3 h4 hok hc hw0
  go_enter Tryd.func33, Tryd.ntmps33
  go_upto_region 1 with (fail)
  have M0 : Mod [] w (w.alloc (.cells #[.int .i64 x0, .int .i64 x1, .int .i64 x2, .int .i64 x3, .int .i64 x4, .int .i64 x5, .int .i64 x6, .string d] 62)) := (Mod.refl _ _).alloc _
  have c7 : (w.alloc (.cells #[.int .i64 x0, .int .i64 x1, .int .i64 x2, .int .i64 x3, .int .i64 x4, .int .i64 x5, .int .i64 x6, .string d] 62)).cell? ⟨w.heap.size, 7, none⟩ = some (.string d) := by simp
  have HM0 := Lib.hid M0
  have HC7 := Lib.hid c7
  clear M0 c7
  go_cut [3] (fun s3 wx => s3 = .bool (!(b1 && b2 && b3 && b4)) ∧ Mod [] (w.alloc (.cells #[.int .i64 x0, .int .i64 x1, .int .i64 x2, .int .i64 x3, .int .i64 x4, .int .i64 x5, .int .i64 x6, .string d] 62)) wx)
  case first =>
    cases b1 with
    | false =>
      go_wp2_with (go_at_call 58; (with_reducible refine (within1 _ _ x0 255 (new_cellN _ _ _ _ 0 _ (by simp) rfl) false H1.out).mono ?_); rintro e w' ⟨rfl, rfl⟩)
      go_meet
      exact ⟨rfl, (Mod.refl _ _).alloc _⟩
    | true =>
    cases b2 with
    | false =>
      go_wp2_with (first
        | (go_at_call 58; (with_reducible refine (within1 _ _ x0 255 (new_cellN _ _ _ _ 0 _ (by simp) rfl) true H1.out).mono ?_); rintro e w' ⟨rfl, rfl⟩)
        | (go_at_call 58; (with_reducible refine (within2 _ _ x1 x2 7 (new_cellN _ _ _ _ 0 _ (by simp) rfl) (new_cellN _ _ _ _ 1 _ (by simp) rfl) false H2.out).mono ?_); rintro e w' ⟨rfl, rfl⟩))
      go_meet
      exact ⟨rfl, ((Mod.refl _ _).alloc _).alloc _⟩
    | true =>
    cases b3 with
    | false =>
      go_wp2_with (first
        | (go_at_call 58; (with_reducible refine (within1 _ _ x0 255 (new_cellN _ _ _ _ 0 _ (by simp) rfl) true H1.out).mono ?_); rintro e w' ⟨rfl, rfl⟩)
        | (go_at_call 58; (with_reducible refine (within2 _ _ x1 x2 7 (new_cellN _ _ _ _ 0 _ (by simp) rfl) (new_cellN _ _ _ _ 1 _ (by simp) rfl) true H2.out).mono ?_); rintro e w' ⟨rfl, rfl⟩)
        | (go_at_call 58; (with_reducible refine (within2 _ _ x3 x4 1099511627776 (new_cellN _ _ _ _ 0 _ (by simp) rfl) (new_cellN _ _ _ _ 1 _ (by simp) rfl) false H3.out).mono ?_); rintro e w' ⟨rfl, rfl⟩))
      go_meet
      exact ⟨rfl, (((Mod.refl _ _).alloc _).alloc _).alloc _⟩
    | true =>
      go_wp2_with (first
        | (go_at_call 58; (with_reducible refine (within1 _ _ x0 255 (new_cellN _ _ _ _ 0 _ (by simp) rfl) true H1.out).mono ?_); rintro e w' ⟨rfl, rfl⟩)
        | (go_at_call 58; (with_reducible refine (within2 _ _ x1 x2 7 (new_cellN _ _ _ _ 0 _ (by simp) rfl) (new_cellN _ _ _ _ 1 _ (by simp) rfl) true H2.out).mono ?_); rintro e w' ⟨rfl, rfl⟩)
        | (go_at_call 58; (with_reducible refine (within2 _ _ x3 x4 1099511627776 (new_cellN _ _ _ _ 0 _ (by simp) rfl) (new_cellN _ _ _ _ 1 _ (by simp) rfl) true H3.out).mono ?_); rintro e w' ⟨rfl, rfl⟩)
        | (go_at_call 58; (with_reducible refine (within2 _ _ x5 x6 256 (new_cellN _ _ _ _ 0 _ (by simp) rfl) (new_cellN _ _ _ _ 1 _ (by simp) rfl) b4 H4.out).mono ?_); rintro e w' ⟨rfl, rfl⟩))
      go_meet
      exact ⟨by simp, ((((Mod.refl _ _).alloc _).alloc _).alloc _).alloc _⟩
  case rest =>
    obtain ⟨h3, hm⟩ := hcut
    subst h3
    have e7 := hm.cell' HC7.out (by simp)
    have HM := Lib.hid hm
    clear hm
    generalize (b1 && b2 && b3 && b4) = bb at *
    clear H1 H2 H3 H4
    cases bb with
    | false =>
      go_wp2
      go_ret
      exact ⟨by rw [HC.out]; rfl, HM0.out.trans HM.out⟩
    | true =>
      by_cases h8 : 1024 < d.size
      · have t1 : decide ((1024 : Int) < (d.size : Int)) = true := by simp; omega
        have HC' := Lib.hid (HC.out.trans (by rw [if_neg (by simp), if_pos h8]))
        go_wp2
        go_ret
        exact ⟨by rw [HC'.out]; rfl, HM0.out.trans HM.out⟩
      · have t1 : decide ((1024 : Int) < (d.size : Int)) = false := by simp; omega
        have HC' := Lib.hid (HC.out.trans (by rw [if_neg (by simp), if_neg h8]))
        go_wp2
        go_ret
        exact ⟨by rw [HC'.out]; rfl, HM0.out.trans HM.out⟩
end Go.Proofs.YtphcoenooinmfaaDoor
