-- PRINTED BY print.sh 35421559b90ae4d0a3588c463048766b98c2df88dd9212a6774a882060cdf62d: not written by this session
import Derived.Test.YtdaapkbgfabmaaaPClockMarginsx0
namespace Go.Proofs.Ytdaapkbgfabmaaa.PClockMargins
open Go.RowKit Go.Proofs.YtdaapkbgfabmaaaW.PrintWords Go.Proofs.YtdaapkbgfabmaaaW.PrintLast Go.Proofs.YtdaapkbgfabmaaaW.PrintMore
attribute [local go_sem] max2_int min2_int max_two min_two max_three min_three max_four min_four   -- for this text's walks alone
set_option linter.unusedVariables false
set_option linter.unusedSimpArgs false

/-! ### clock_clamp: function 52 -/
def clock_clamp.f (a0 : Int) (a1 : Int) : Option (Int) := some (mx 0 (mn a0 a1))
set_option maxHeartbeats 8000000 in
set_option maxRecDepth 100000 in
theorem clock_clamp.calls (a0 : Int) (a1 : Int) (r : Int) (w : World) (h : clock_clamp.f a0 a1 = some r) :
    Calls Try.prog 52 #[.int .i64 a0, .int .i64 a1] w fun e w' => e = .returned (.int .i64 r) ∧ Below w.heap.size w w' := by
  have HB := Aside0.mk (Below.refl w.heap.size w)
  have H : (some (mx 0 (mn a0 a1))) = some r := h
  clear h
  obtain ⟨ji3, hji3⟩ : ∃ j_ : Int, (mn a0 a1) = j_ := ⟨_, rfl⟩
  replace H : (some (mx 0 (ji3))) = some r := by first | (rw [hji3] at H; exact H) | (simp only [hji3] at H ⊢; exact H)
  have hji3_ : (if a1 < a0 then a1 else a0) = ji3 := hji3
  obtain ⟨ji4, hji4⟩ : ∃ j_ : Int, (mx 0 (ji3)) = j_ := ⟨_, rfl⟩
  replace H : (some ji4) = some r := by first | (rw [hji4] at H; exact H) | (simp only [hji4] at H ⊢; exact H)
  have hji4_ : (if 0 < (ji3) then (ji3) else 0) = ji4 := hji4
  obtain rfl := Option.some.inj H
  go_enter Try.func52, Try.ntmps52
  go_wp2
  go_ret
  exact ⟨by first | rfl | (simp [errW_none, errW_some] <;> rfl) | (simp only [← hji3, ← hji4]; first | rfl | (simp [errW_none, errW_some] <;> rfl)) | (simp [*, errW_none, errW_some] <;> rfl), by repeat (first | (with_reducible first | exact HB.out | apply below_alloc | apply pw_below_drewN | apply below_drew1) | exact HB.out)⟩

/-! ### clock_Margin: function 14 -/
def clock_Margin.f (a0 : Int) (a1 : Int) (a2 : Int) : Option (Int) := (clock_clamp.f a0 1099511627776).bind fun t101 => ((clock_clamp.f a2 1048576).bind fun t102 => ((clock_clamp.f a1 1000).bind fun t103 => (if (wrap64 (100 + t103)) = 0 then (none) else (some (mx 0 (wrap64 (Int.tdiv (wrap64 (100 * (wrap64 (t101 - t102)))) (wrap64 (100 + t103)))))))))
set_option maxHeartbeats 8000000 in
set_option maxRecDepth 100000 in
theorem clock_Margin.calls (a0 : Int) (a1 : Int) (a2 : Int) (r : Int) (w : World) (h : clock_Margin.f a0 a1 a2 = some r) :
    Calls Try.prog 14 #[.int .i64 a0, .int .i64 a1, .int .i64 a2] w fun e w' => e = .returned (.int .i64 r) ∧ Below w.heap.size w w' := by
  have HB := Aside0.mk (Below.refl w.heap.size w)
  have H : ((clock_clamp.f a0 1099511627776).bind fun t101 => ((clock_clamp.f a2 1048576).bind fun t102 => ((clock_clamp.f a1 1000).bind fun t103 => (if (wrap64 (100 + t103)) = 0 then (none) else (some (mx 0 (wrap64 (Int.tdiv (wrap64 (100 * (wrap64 (t101 - t102)))) (wrap64 (100 + t103)))))))))) = some r := h
  clear h
  replace H := Option.bind_eq_some_iff.mp H
  obtain ⟨t101, A40, H⟩ := H
  replace H : ((clock_clamp.f a2 1048576).bind fun t102 => ((clock_clamp.f a1 1000).bind fun t103 => (if (wrap64 (100 + t103)) = 0 then (none) else (some (mx 0 (wrap64 (Int.tdiv (wrap64 (100 * (wrap64 (t101 - t102)))) (wrap64 (100 + t103))))))))) = some r := H
  have A4 := Aside0.mk A40
  clear A40
  replace H := Option.bind_eq_some_iff.mp H
  obtain ⟨t102, A50, H⟩ := H
  replace H : ((clock_clamp.f a1 1000).bind fun t103 => (if (wrap64 (100 + t103)) = 0 then (none) else (some (mx 0 (wrap64 (Int.tdiv (wrap64 (100 * (wrap64 (t101 - t102)))) (wrap64 (100 + t103)))))))) = some r := H
  have A5 := Aside0.mk A50
  clear A50
  replace H := Option.bind_eq_some_iff.mp H
  obtain ⟨t103, A60, H⟩ := H
  replace H : (if (wrap64 (100 + t103)) = 0 then (none) else (some (mx 0 (wrap64 (Int.tdiv (wrap64 (100 * (wrap64 (t101 - t102)))) (wrap64 (100 + t103))))))) = some r := H
  have A6 := Aside0.mk A60
  clear A60
  by_cases c7 : (wrap64 (100 + t103)) = 0
  · rw [if_pos c7] at H
    exact absurd H (by simp)
  · rw [if_neg c7] at H
    have c7b0 : ((wrap64 (100 + t103)) == 0) = false := beq_eq_false_iff_ne.mpr c7
    have c7b1 : ((wrap64 (100 + t103)) != 0) = true := bne_iff_ne.mpr c7
    obtain ⟨ji8, hji8⟩ : ∃ j_ : Int, (mx 0 (wrap64 (Int.tdiv (wrap64 (100 * (wrap64 (t101 - t102)))) (wrap64 (100 + t103))))) = j_ := ⟨_, rfl⟩
    replace H : (some ji8) = some r := by first | (rw [hji8] at H; exact H) | (simp only [hji8] at H ⊢; exact H)
    (try rw [hji8] at A4)
    (try rw [hji8] at A5)
    (try rw [hji8] at A6)
    (try (have hji8l : 0 ≤ ji8 := by (rw [← hji8]; unfold mx; (repeat' split) <;> omega)))
    (try (have hji8m : 0 ≤ ji8 := by omega))
    have hji8_ : (if 0 < (wrap64 (Int.tdiv (wrap64 (100 * (wrap64 (t101 - t102)))) (wrap64 (100 + t103)))) then (wrap64 (Int.tdiv (wrap64 (100 * (wrap64 (t101 - t102)))) (wrap64 (100 + t103)))) else 0) = ji8 := hji8
    obtain rfl := Option.some.inj H
    go_enter Try.func14, Try.ntmps14
    go_wp2_with (first | ((with_reducible refine gate_callee (f := 52) rfl ?_); refine goesL_ (some 9) rfl rfl Try.func52 (by kernel_rfl) rfl #[.int .i64 a0, .int .i64 1099511627776] rfl (by (try simp only [List.map_toArray, List.map_cons, List.map_nil]); first | done | rfl | (simp only [List.length_drop, List.length_take]; rfl)) ?_; (with_reducible refine (clock_clamp.calls a0 1099511627776 t101 _ A4.out).mono ?_); rintro e w9 ⟨rfl, hb⟩; refine ⟨_, rfl, ?_⟩; have n0_ := Aside0.mk (below_step (by repeat (first | (with_reducible first | exact HB.out | apply below_alloc | apply pw_below_drewN | apply below_drew1) | exact HB.out)) hb); clear HB; have HB := n0_; clear n0_; (try clear hb); (try clear hb2); (try clear hk); (try clear hi)) | ((with_reducible refine gate_callee (f := 52) rfl ?_); refine goesL_ (some 11) rfl rfl Try.func52 (by kernel_rfl) rfl #[.int .i64 a2, .int .i64 1048576] rfl (by (try simp only [List.map_toArray, List.map_cons, List.map_nil]); first | done | rfl | (simp only [List.length_drop, List.length_take]; rfl)) ?_; (with_reducible refine (clock_clamp.calls a2 1048576 t102 _ A5.out).mono ?_); rintro e w10 ⟨rfl, hb⟩; refine ⟨_, rfl, ?_⟩; have n0_ := Aside0.mk (below_step (by repeat (first | (with_reducible first | exact HB.out | apply below_alloc | apply pw_below_drewN | apply below_drew1) | exact HB.out)) hb); clear HB; have HB := n0_; clear n0_; (try clear hb); (try clear hb2); (try clear hk); (try clear hi)) | ((with_reducible refine gate_callee (f := 52) rfl ?_); refine goesL_ (some 16) rfl rfl Try.func52 (by kernel_rfl) rfl #[.int .i64 a1, .int .i64 1000] rfl (by (try simp only [List.map_toArray, List.map_cons, List.map_nil]); first | done | rfl | (simp only [List.length_drop, List.length_take]; rfl)) ?_; (with_reducible refine (clock_clamp.calls a1 1000 t103 _ A6.out).mono ?_); rintro e w11 ⟨rfl, hb⟩; refine ⟨_, rfl, ?_⟩; have n0_ := Aside0.mk (below_step (by repeat (first | (with_reducible first | exact HB.out | apply below_alloc | apply pw_below_drewN | apply below_drew1) | exact HB.out)) hb); clear HB; have HB := n0_; clear n0_; (try clear hb); (try clear hb2); (try clear hk); (try clear hi)))
    go_ret
    exact ⟨by first | rfl | (simp [errW_none, errW_some] <;> rfl) | (simp only [← hji8]; first | rfl | (simp [errW_none, errW_some] <;> rfl)) | (simp [*, errW_none, errW_some] <;> rfl), by repeat (first | (with_reducible first | exact HB.out | apply below_alloc | apply pw_below_drewN | apply below_drew1) | exact HB.out)⟩

/-! ### weirkeepref05_clamp: function 53 -/
def weirkeepref05_clamp.f (a0 : Int) (a1 : Int) : Option (Int) := some (mx 0 (mn a0 a1))
set_option maxHeartbeats 8000000 in
set_option maxRecDepth 100000 in
theorem weirkeepref05_clamp.calls (a0 : Int) (a1 : Int) (r : Int) (w : World) (h : weirkeepref05_clamp.f a0 a1 = some r) :
    Calls Try.prog 53 #[.int .i64 a0, .int .i64 a1] w fun e w' => e = .returned (.int .i64 r) ∧ Below w.heap.size w w' := by
  have HB := Aside0.mk (Below.refl w.heap.size w)
  have H : (some (mx 0 (mn a0 a1))) = some r := h
  clear h
  obtain ⟨ji3, hji3⟩ : ∃ j_ : Int, (mn a0 a1) = j_ := ⟨_, rfl⟩
  replace H : (some (mx 0 (ji3))) = some r := by first | (rw [hji3] at H; exact H) | (simp only [hji3] at H ⊢; exact H)
  have hji3_ : (if a1 < a0 then a1 else a0) = ji3 := hji3
  obtain ⟨ji4, hji4⟩ : ∃ j_ : Int, (mx 0 (ji3)) = j_ := ⟨_, rfl⟩
  replace H : (some ji4) = some r := by first | (rw [hji4] at H; exact H) | (simp only [hji4] at H ⊢; exact H)
  have hji4_ : (if 0 < (ji3) then (ji3) else 0) = ji4 := hji4
  obtain rfl := Option.some.inj H
  go_enter Try.func53, Try.ntmps53
  go_wp2
  go_ret
  exact ⟨by first | rfl | (simp [errW_none, errW_some] <;> rfl) | (simp only [← hji3, ← hji4]; first | rfl | (simp [errW_none, errW_some] <;> rfl)) | (simp [*, errW_none, errW_some] <;> rfl), by repeat (first | (with_reducible first | exact HB.out | apply below_alloc | apply pw_below_drewN | apply below_drew1) | exact HB.out)⟩

/-! ### weirkeepref05_Margin: function 15 -/
def weirkeepref05_Margin.f (a0 : Int) (a1 : Int) (a2 : Int) : Option (Int) := (weirkeepref05_clamp.f a0 1099511627776).bind fun t104 => ((weirkeepref05_clamp.f a2 1048576).bind fun t105 => ((weirkeepref05_clamp.f a1 1000).bind fun t106 => (if (wrap64 (100 + t106)) = 0 then (none) else (some (mx 0 (wrap64 (Int.tdiv (wrap64 ((wrap64 (100 * t104)) - (wrap64 (100 * t105)))) (wrap64 (100 + t106)))))))))
set_option maxHeartbeats 8000000 in
set_option maxRecDepth 100000 in
theorem weirkeepref05_Margin.calls (a0 : Int) (a1 : Int) (a2 : Int) (r : Int) (w : World) (h : weirkeepref05_Margin.f a0 a1 a2 = some r) :
    Calls Try.prog 15 #[.int .i64 a0, .int .i64 a1, .int .i64 a2] w fun e w' => e = .returned (.int .i64 r) ∧ Below w.heap.size w w' := by
  have HB := Aside0.mk (Below.refl w.heap.size w)
  have H : ((weirkeepref05_clamp.f a0 1099511627776).bind fun t104 => ((weirkeepref05_clamp.f a2 1048576).bind fun t105 => ((weirkeepref05_clamp.f a1 1000).bind fun t106 => (if (wrap64 (100 + t106)) = 0 then (none) else (some (mx 0 (wrap64 (Int.tdiv (wrap64 ((wrap64 (100 * t104)) - (wrap64 (100 * t105)))) (wrap64 (100 + t106)))))))))) = some r := h
  clear h
  replace H := Option.bind_eq_some_iff.mp H
  obtain ⟨t104, A40, H⟩ := H
  replace H : ((weirkeepref05_clamp.f a2 1048576).bind fun t105 => ((weirkeepref05_clamp.f a1 1000).bind fun t106 => (if (wrap64 (100 + t106)) = 0 then (none) else (some (mx 0 (wrap64 (Int.tdiv (wrap64 ((wrap64 (100 * t104)) - (wrap64 (100 * t105)))) (wrap64 (100 + t106))))))))) = some r := H
  have A4 := Aside0.mk A40
  clear A40
  replace H := Option.bind_eq_some_iff.mp H
  obtain ⟨t105, A50, H⟩ := H
  replace H : ((weirkeepref05_clamp.f a1 1000).bind fun t106 => (if (wrap64 (100 + t106)) = 0 then (none) else (some (mx 0 (wrap64 (Int.tdiv (wrap64 ((wrap64 (100 * t104)) - (wrap64 (100 * t105)))) (wrap64 (100 + t106)))))))) = some r := H
  have A5 := Aside0.mk A50
  clear A50
  replace H := Option.bind_eq_some_iff.mp H
  obtain ⟨t106, A60, H⟩ := H
  replace H : (if (wrap64 (100 + t106)) = 0 then (none) else (some (mx 0 (wrap64 (Int.tdiv (wrap64 ((wrap64 (100 * t104)) - (wrap64 (100 * t105)))) (wrap64 (100 + t106))))))) = some r := H
  have A6 := Aside0.mk A60
  clear A60
  by_cases c7 : (wrap64 (100 + t106)) = 0
  · rw [if_pos c7] at H
    exact absurd H (by simp)
  · rw [if_neg c7] at H
    have c7b0 : ((wrap64 (100 + t106)) == 0) = false := beq_eq_false_iff_ne.mpr c7
    have c7b1 : ((wrap64 (100 + t106)) != 0) = true := bne_iff_ne.mpr c7
    obtain ⟨ji8, hji8⟩ : ∃ j_ : Int, (mx 0 (wrap64 (Int.tdiv (wrap64 ((wrap64 (100 * t104)) - (wrap64 (100 * t105)))) (wrap64 (100 + t106))))) = j_ := ⟨_, rfl⟩
    replace H : (some ji8) = some r := by first | (rw [hji8] at H; exact H) | (simp only [hji8] at H ⊢; exact H)
    (try rw [hji8] at A4)
    (try rw [hji8] at A5)
    (try rw [hji8] at A6)
    (try (have hji8l : 0 ≤ ji8 := by (rw [← hji8]; unfold mx; (repeat' split) <;> omega)))
    (try (have hji8m : 0 ≤ ji8 := by omega))
    have hji8_ : (if 0 < (wrap64 (Int.tdiv (wrap64 ((wrap64 (100 * t104)) - (wrap64 (100 * t105)))) (wrap64 (100 + t106)))) then (wrap64 (Int.tdiv (wrap64 ((wrap64 (100 * t104)) - (wrap64 (100 * t105)))) (wrap64 (100 + t106)))) else 0) = ji8 := hji8
    obtain rfl := Option.some.inj H
    go_enter Try.func15, Try.ntmps15
    go_wp2_with (first | ((with_reducible refine gate_callee (f := 53) rfl ?_); refine goesL_ (some 8) rfl rfl Try.func53 (by kernel_rfl) rfl #[.int .i64 a0, .int .i64 1099511627776] rfl (by (try simp only [List.map_toArray, List.map_cons, List.map_nil]); first | done | rfl | (simp only [List.length_drop, List.length_take]; rfl)) ?_; (with_reducible refine (weirkeepref05_clamp.calls a0 1099511627776 t104 _ A4.out).mono ?_); rintro e w9 ⟨rfl, hb⟩; refine ⟨_, rfl, ?_⟩; have n0_ := Aside0.mk (below_step (by repeat (first | (with_reducible first | exact HB.out | apply below_alloc | apply pw_below_drewN | apply below_drew1) | exact HB.out)) hb); clear HB; have HB := n0_; clear n0_; (try clear hb); (try clear hb2); (try clear hk); (try clear hi)) | ((with_reducible refine gate_callee (f := 53) rfl ?_); refine goesL_ (some 11) rfl rfl Try.func53 (by kernel_rfl) rfl #[.int .i64 a2, .int .i64 1048576] rfl (by (try simp only [List.map_toArray, List.map_cons, List.map_nil]); first | done | rfl | (simp only [List.length_drop, List.length_take]; rfl)) ?_; (with_reducible refine (weirkeepref05_clamp.calls a2 1048576 t105 _ A5.out).mono ?_); rintro e w10 ⟨rfl, hb⟩; refine ⟨_, rfl, ?_⟩; have n0_ := Aside0.mk (below_step (by repeat (first | (with_reducible first | exact HB.out | apply below_alloc | apply pw_below_drewN | apply below_drew1) | exact HB.out)) hb); clear HB; have HB := n0_; clear n0_; (try clear hb); (try clear hb2); (try clear hk); (try clear hi)) | ((with_reducible refine gate_callee (f := 53) rfl ?_); refine goesL_ (some 15) rfl rfl Try.func53 (by kernel_rfl) rfl #[.int .i64 a1, .int .i64 1000] rfl (by (try simp only [List.map_toArray, List.map_cons, List.map_nil]); first | done | rfl | (simp only [List.length_drop, List.length_take]; rfl)) ?_; (with_reducible refine (weirkeepref05_clamp.calls a1 1000 t106 _ A6.out).mono ?_); rintro e w11 ⟨rfl, hb⟩; refine ⟨_, rfl, ?_⟩; have n0_ := Aside0.mk (below_step (by repeat (first | (with_reducible first | exact HB.out | apply below_alloc | apply pw_below_drewN | apply below_drew1) | exact HB.out)) hb); clear HB; have HB := n0_; clear n0_; (try clear hb); (try clear hb2); (try clear hk); (try clear hi)))
    go_ret
    exact ⟨by first | rfl | (simp [errW_none, errW_some] <;> rfl) | (simp only [← hji8]; first | rfl | (simp [errW_none, errW_some] <;> rfl)) | (simp [*, errW_none, errW_some] <;> rfl), by repeat (first | (with_reducible first | exact HB.out | apply below_alloc | apply pw_below_drewN | apply below_drew1) | exact HB.out)⟩

/-! ### weirkeeplaw05_ClockMargins: function 3 -/
def weirkeeplaw05_ClockMargins.j0 : Nat → Int → Int → Int → Int → Bool → Option (Bool)
  | 0, _, _, _, _, _ => none
  | k + 1, x2, x3, x11, x13, x61 => if x61 = true then (some false) else (if x13 ≤ x11 then ((clock_Margin.f x11 0 0).bind fun t111 => (if t111 = x11 then ((weirkeepref05_Margin.f x11 (wrap64 (x2)) (wrap64 (x3))).bind fun t112 => (if x13 = t112 then ((clock_Margin.f 10 0 0).bind fun t113 => (some (t113 == 10))) else (some false))) else (some false))) else (some false))
def weirkeeplaw05_ClockMargins.f (k : Nat) (a0 : Int) (a1 : Int) (a2 : Int) (a3 : Int) (a4 : Int) : Option (Bool) := (clock_Margin.f (wrap64 (mn a0 a1)) (wrap64 (a2)) (wrap64 (a3))).bind fun t107 => ((clock_Margin.f (wrap64 (mx a0 a1)) (wrap64 (a2)) (wrap64 (a3))).bind fun t108 => (if t108 < t107 then (weirkeeplaw05_ClockMargins.j0 k a2 a3 (wrap64 (mn a0 a1)) t107 true) else ((clock_Margin.f (wrap64 (mn a0 a1)) (wrap64 ((wrap64 (a2)) + (wrap64 (a4)))) (wrap64 (a3))).bind fun t109 => (if t109 > t107 then (weirkeeplaw05_ClockMargins.j0 k a2 a3 (wrap64 (mn a0 a1)) t107 true) else ((clock_Margin.f (wrap64 (mn a0 a1)) (wrap64 (a2)) (wrap64 ((wrap64 (a3)) + (wrap64 (a4))))).bind fun t110 => (weirkeeplaw05_ClockMargins.j0 k a2 a3 (wrap64 (mn a0 a1)) t107 (decide (t110 > t107))))))))
theorem weirkeeplaw05_ClockMargins.mono_l : ∀ k, (∀ y0 y1 y2 y3 y4, LeO (weirkeeplaw05_ClockMargins.j0 k y0 y1 y2 y3 y4) (weirkeeplaw05_ClockMargins.j0 (k + 1) y0 y1 y2 y3 y4))
  | 0 => fun _ _ _ _ _ r h => by simp [weirkeeplaw05_ClockMargins.j0] at h
  | k + 1 => by
    have ih0 := weirkeeplaw05_ClockMargins.mono_l k
    · intro y0 y1 y2 y3 y4
      unfold weirkeeplaw05_ClockMargins.j0
      repeat' first
      | (with_reducible exact ih0 _ _ _ _ _)
      | (with_reducible exact LeO.refl _)
      | (with_reducible exact LeO.none _)
      | (with_reducible refine LeO.ite ?_ ?_)
      | (with_reducible refine LeO.bind ?_ (fun _ => ?_))
      | exact ih0 _ _ _ _ _
      | exact LeO.none _
      | refine LeO.ite ?_ ?_
      | refine LeO.bind ?_ (fun _ => ?_)
theorem weirkeeplaw05_ClockMargins.mono : ∀ a0 a1 a2 a3 a4 k, LeO (weirkeeplaw05_ClockMargins.f k a0 a1 a2 a3 a4) (weirkeeplaw05_ClockMargins.f (k + 1) a0 a1 a2 a3 a4) := by
  intro a0 a1 a2 a3 a4 k
  have ih0 := weirkeeplaw05_ClockMargins.mono_l k
  unfold weirkeeplaw05_ClockMargins.f
  repeat' first
      | (with_reducible exact ih0 _ _ _ _ _)
      | (with_reducible exact LeO.refl _)
      | (with_reducible exact LeO.none _)
      | (with_reducible refine LeO.ite ?_ ?_)
      | (with_reducible refine LeO.bind ?_ (fun _ => ?_))
      | exact ih0 _ _ _ _ _
      | exact LeO.none _
      | refine LeO.ite ?_ ?_
      | refine LeO.bind ?_ (fun _ => ?_)
set_option maxHeartbeats 8000000 in
set_option maxRecDepth 100000 in
theorem weirkeeplaw05_ClockMargins.calls (k : Nat) (a0 : Int) (a1 : Int) (a2 : Int) (a3 : Int) (a4 : Int) (r : Bool) (w : World) (h : weirkeeplaw05_ClockMargins.f k a0 a1 a2 a3 a4 = some r) :
    Calls Try.prog 3 #[.int .u32 a0, .int .u32 a1, .int .u8 a2, .int .u8 a3, .int .u8 a4] w fun e w' => e = .returned (.bool r) ∧ Below w.heap.size w w' := by
  have HB := Aside0.mk (Below.refl w.heap.size w)
  have H : ((clock_Margin.f (wrap64 (mn a0 a1)) (wrap64 (a2)) (wrap64 (a3))).bind fun t107 => ((clock_Margin.f (wrap64 (mx a0 a1)) (wrap64 (a2)) (wrap64 (a3))).bind fun t108 => (if t108 < t107 then (weirkeeplaw05_ClockMargins.j0 k a2 a3 (wrap64 (mn a0 a1)) t107 true) else ((clock_Margin.f (wrap64 (mn a0 a1)) (wrap64 ((wrap64 (a2)) + (wrap64 (a4)))) (wrap64 (a3))).bind fun t109 => (if t109 > t107 then (weirkeeplaw05_ClockMargins.j0 k a2 a3 (wrap64 (mn a0 a1)) t107 true) else ((clock_Margin.f (wrap64 (mn a0 a1)) (wrap64 (a2)) (wrap64 ((wrap64 (a3)) + (wrap64 (a4))))).bind fun t110 => (weirkeeplaw05_ClockMargins.j0 k a2 a3 (wrap64 (mn a0 a1)) t107 (decide (t110 > t107))))))))) = some r := h
  clear h
  obtain ⟨ji6, hji6⟩ : ∃ j_ : Int, (mn a0 a1) = j_ := ⟨_, rfl⟩
  replace H : ((clock_Margin.f (wrap64 (ji6)) (wrap64 (a2)) (wrap64 (a3))).bind fun t107 => ((clock_Margin.f (wrap64 (mx a0 a1)) (wrap64 (a2)) (wrap64 (a3))).bind fun t108 => (if t108 < t107 then (weirkeeplaw05_ClockMargins.j0 k a2 a3 (wrap64 (ji6)) t107 true) else ((clock_Margin.f (wrap64 (ji6)) (wrap64 ((wrap64 (a2)) + (wrap64 (a4)))) (wrap64 (a3))).bind fun t109 => (if t109 > t107 then (weirkeeplaw05_ClockMargins.j0 k a2 a3 (wrap64 (ji6)) t107 true) else ((clock_Margin.f (wrap64 (ji6)) (wrap64 (a2)) (wrap64 ((wrap64 (a3)) + (wrap64 (a4))))).bind fun t110 => (weirkeeplaw05_ClockMargins.j0 k a2 a3 (wrap64 (ji6)) t107 (decide (t110 > t107))))))))) = some r := by first | (rw [hji6] at H; exact H) | (simp only [hji6] at H ⊢; exact H)
  have hji6_ : (if a1 < a0 then a1 else a0) = ji6 := hji6
  obtain ⟨ji7, hji7⟩ : ∃ j_ : Int, (mx a0 a1) = j_ := ⟨_, rfl⟩
  replace H : ((clock_Margin.f (wrap64 (ji6)) (wrap64 (a2)) (wrap64 (a3))).bind fun t107 => ((clock_Margin.f (wrap64 (ji7)) (wrap64 (a2)) (wrap64 (a3))).bind fun t108 => (if t108 < t107 then (weirkeeplaw05_ClockMargins.j0 k a2 a3 (wrap64 (ji6)) t107 true) else ((clock_Margin.f (wrap64 (ji6)) (wrap64 ((wrap64 (a2)) + (wrap64 (a4)))) (wrap64 (a3))).bind fun t109 => (if t109 > t107 then (weirkeeplaw05_ClockMargins.j0 k a2 a3 (wrap64 (ji6)) t107 true) else ((clock_Margin.f (wrap64 (ji6)) (wrap64 (a2)) (wrap64 ((wrap64 (a3)) + (wrap64 (a4))))).bind fun t110 => (weirkeeplaw05_ClockMargins.j0 k a2 a3 (wrap64 (ji6)) t107 (decide (t110 > t107))))))))) = some r := by first | (rw [hji7] at H; exact H) | (simp only [hji7] at H ⊢; exact H)
  have hji7_ : (if a0 < a1 then a1 else a0) = ji7 := hji7
  replace H := Option.bind_eq_some_iff.mp H
  obtain ⟨t107, A80, H⟩ := H
  replace H : ((clock_Margin.f (wrap64 (ji7)) (wrap64 (a2)) (wrap64 (a3))).bind fun t108 => (if t108 < t107 then (weirkeeplaw05_ClockMargins.j0 k a2 a3 (wrap64 (ji6)) t107 true) else ((clock_Margin.f (wrap64 (ji6)) (wrap64 ((wrap64 (a2)) + (wrap64 (a4)))) (wrap64 (a3))).bind fun t109 => (if t109 > t107 then (weirkeeplaw05_ClockMargins.j0 k a2 a3 (wrap64 (ji6)) t107 true) else ((clock_Margin.f (wrap64 (ji6)) (wrap64 (a2)) (wrap64 ((wrap64 (a3)) + (wrap64 (a4))))).bind fun t110 => (weirkeeplaw05_ClockMargins.j0 k a2 a3 (wrap64 (ji6)) t107 (decide (t110 > t107)))))))) = some r := H
  have A8 := Aside0.mk A80
  clear A80
  have HC9 := Aside0.mk H
  clear H
  go_enter Try.func3, Try.ntmps3
  go_upto_region 4 with (first | ((with_reducible refine gate_callee (f := 14) rfl ?_); refine goesL_ (some 27) rfl rfl Try.func14 (by kernel_rfl) rfl #[.int .i64 (wrap64 (ji6)), .int .i64 (wrap64 (a2)), .int .i64 (wrap64 (a3))] rfl (by (try simp only [List.map_toArray, List.map_cons, List.map_nil]); first | done | (simp only [hji6]; rfl) | rfl | (simp only [List.length_drop, List.length_take]; rfl)) ?_; (with_reducible refine (clock_Margin.calls (wrap64 (ji6)) (wrap64 (a2)) (wrap64 (a3)) t107 _ A8.out).mono ?_); rintro e w10 ⟨rfl, hb⟩; refine ⟨_, rfl, ?_⟩; have n0_ := Aside0.mk (below_step (by repeat (first | (with_reducible first | exact HB.out | apply below_alloc | apply pw_below_drewN | apply below_drew1) | exact HB.out)) hb); clear HB; have HB := n0_; clear n0_; (try clear hb); (try clear hb2); (try clear hk); (try clear hi)))
  (try simp only [Act.put, List.setIfInBounds_toArray, List.set_cons_zero, List.set_cons_succ])
  go_cut [61] (fun v61 wc => ∃ (kq : Nat) (x61_8 : Bool), v61 = .bool x61_8 ∧ Aside0 (weirkeeplaw05_ClockMargins.j0 kq a2 a3 (wrap64 (ji6)) t107 x61_8 = some r) ∧ Aside0 (kq ≤ k) ∧ Aside0 (Below w.heap.size w wc))
  case first =>
    have H := HC9.out
    clear HC9
    replace H := Option.bind_eq_some_iff.mp H
    obtain ⟨t108, A110, H⟩ := H
    replace H : (if t108 < t107 then (weirkeeplaw05_ClockMargins.j0 k a2 a3 (wrap64 (ji6)) t107 true) else ((clock_Margin.f (wrap64 (ji6)) (wrap64 ((wrap64 (a2)) + (wrap64 (a4)))) (wrap64 (a3))).bind fun t109 => (if t109 > t107 then (weirkeeplaw05_ClockMargins.j0 k a2 a3 (wrap64 (ji6)) t107 true) else ((clock_Margin.f (wrap64 (ji6)) (wrap64 (a2)) (wrap64 ((wrap64 (a3)) + (wrap64 (a4))))).bind fun t110 => (weirkeeplaw05_ClockMargins.j0 k a2 a3 (wrap64 (ji6)) t107 (decide (t110 > t107))))))) = some r := H
    have A11 := Aside0.mk A110
    clear A110
    by_cases c12 : t108 < t107
    · rw [if_pos c12] at H
      have c12b0 : decide (t108 < t107) = true := decide_eq_true c12
      clear c12
      (first | rw [c12b0] | (simp only [i64_w, i32_w]; rw [c12b0]) | skip)
      have H' := Aside0.mk H
      clear H
      go_wp2_with (first | ((with_reducible refine gate_callee (f := 14) rfl ?_); refine goesL_ (some 33) rfl rfl Try.func14 (by kernel_rfl) rfl #[.int .i64 (wrap64 (ji7)), .int .i64 (wrap64 (a2)), .int .i64 (wrap64 (a3))] rfl (by (try simp only [List.map_toArray, List.map_cons, List.map_nil]); first | done | (simp only [hji7]; rfl) | rfl | (simp only [List.length_drop, List.length_take]; rfl)) ?_; (with_reducible refine (clock_Margin.calls (wrap64 (ji7)) (wrap64 (a2)) (wrap64 (a3)) t108 _ A11.out).mono ?_); rintro e w13 ⟨rfl, hb⟩; refine ⟨_, rfl, ?_⟩; have n0_ := Aside0.mk (below_step (by repeat (first | (with_reducible first | exact HB.out | apply below_alloc | apply pw_below_drewN | apply below_drew1) | exact HB.out)) hb); clear HB; have HB := n0_; clear n0_; (try clear hb); (try clear hb2); (try clear hk); (try clear hi)))
      go_meet
      case rel => exact ⟨_, (true), (by first | rfl | (simp; done) | (simp [*]; done)), H', ⟨by first | omega | exact Nat.le_refl _⟩, ⟨by repeat (first | (with_reducible first | exact HB.out | apply below_alloc | apply pw_below_drewN | apply below_drew1) | exact HB.out)⟩⟩
    · rw [if_neg c12] at H
      have c12b0 : decide (t108 < t107) = false := decide_eq_false c12
      clear c12
      (first | rw [c12b0] | (simp only [i64_w, i32_w]; rw [c12b0]) | skip)
      replace H := Option.bind_eq_some_iff.mp H
      obtain ⟨t109, A140, H⟩ := H
      replace H : (if t109 > t107 then (weirkeeplaw05_ClockMargins.j0 k a2 a3 (wrap64 (ji6)) t107 true) else ((clock_Margin.f (wrap64 (ji6)) (wrap64 (a2)) (wrap64 ((wrap64 (a3)) + (wrap64 (a4))))).bind fun t110 => (weirkeeplaw05_ClockMargins.j0 k a2 a3 (wrap64 (ji6)) t107 (decide (t110 > t107))))) = some r := H
      have A14 := Aside0.mk A140
      clear A140
      by_cases c15 : t109 > t107
      · rw [if_pos c15] at H
        have c15b0 : decide (t107 < t109) = true := decide_eq_true c15
        clear c15
        have H' := Aside0.mk H
        clear H
        go_wp2_with (first | ((with_reducible refine gate_callee (f := 14) rfl ?_); refine goesL_ (some 33) rfl rfl Try.func14 (by kernel_rfl) rfl #[.int .i64 (wrap64 (ji7)), .int .i64 (wrap64 (a2)), .int .i64 (wrap64 (a3))] rfl (by (try simp only [List.map_toArray, List.map_cons, List.map_nil]); first | done | (simp only [hji7]; rfl) | rfl | (simp only [List.length_drop, List.length_take]; rfl)) ?_; (with_reducible refine (clock_Margin.calls (wrap64 (ji7)) (wrap64 (a2)) (wrap64 (a3)) t108 _ A11.out).mono ?_); rintro e w16 ⟨rfl, hb⟩; refine ⟨_, rfl, ?_⟩; have n0_ := Aside0.mk (below_step (by repeat (first | (with_reducible first | exact HB.out | apply below_alloc | apply pw_below_drewN | apply below_drew1) | exact HB.out)) hb); clear HB; have HB := n0_; clear n0_; (try clear hb); (try clear hb2); (try clear hk); (try clear hi)) | (go_at_call 14; (with_reducible refine (clock_Margin.calls (wrap64 (ji6)) (wrap64 ((wrap64 (a2)) + (wrap64 (a4)))) (wrap64 (a3)) t109 _ A14.out).mono ?_); rintro e w17 ⟨rfl, hb⟩; have n0_ := Aside0.mk (below_step (by repeat (first | (with_reducible first | exact HB.out | apply below_alloc | apply pw_below_drewN | apply below_drew1) | exact HB.out)) hb); clear HB; have HB := n0_; clear n0_; (try clear hb); (try clear hb2); (try clear hk); (try clear hi)))
        go_meet
        case rel => exact ⟨_, (true), (by first | rfl | (simp; done) | (simp [*]; done)), H', ⟨by first | omega | exact Nat.le_refl _⟩, ⟨by repeat (first | (with_reducible first | exact HB.out | apply below_alloc | apply pw_below_drewN | apply below_drew1) | exact HB.out)⟩⟩
      · rw [if_neg c15] at H
        have c15b0 : decide (t107 < t109) = false := decide_eq_false c15
        clear c15
        replace H := Option.bind_eq_some_iff.mp H
        obtain ⟨t110, A180, H⟩ := H
        replace H : (weirkeeplaw05_ClockMargins.j0 k a2 a3 (wrap64 (ji6)) t107 (decide (t110 > t107))) = some r := H
        have A18 := Aside0.mk A180
        clear A180
        have H' := Aside0.mk H
        clear H
        go_wp2_with (first | ((with_reducible refine gate_callee (f := 14) rfl ?_); refine goesL_ (some 33) rfl rfl Try.func14 (by kernel_rfl) rfl #[.int .i64 (wrap64 (ji7)), .int .i64 (wrap64 (a2)), .int .i64 (wrap64 (a3))] rfl (by (try simp only [List.map_toArray, List.map_cons, List.map_nil]); first | done | (simp only [hji7]; rfl) | rfl | (simp only [List.length_drop, List.length_take]; rfl)) ?_; (with_reducible refine (clock_Margin.calls (wrap64 (ji7)) (wrap64 (a2)) (wrap64 (a3)) t108 _ A11.out).mono ?_); rintro e w19 ⟨rfl, hb⟩; refine ⟨_, rfl, ?_⟩; have n0_ := Aside0.mk (below_step (by repeat (first | (with_reducible first | exact HB.out | apply below_alloc | apply pw_below_drewN | apply below_drew1) | exact HB.out)) hb); clear HB; have HB := n0_; clear n0_; (try clear hb); (try clear hb2); (try clear hk); (try clear hi)) | (go_at_call 14; (with_reducible refine (clock_Margin.calls (wrap64 (ji6)) (wrap64 ((wrap64 (a2)) + (wrap64 (a4)))) (wrap64 (a3)) t109 _ A14.out).mono ?_); rintro e w20 ⟨rfl, hb⟩; have n0_ := Aside0.mk (below_step (by repeat (first | (with_reducible first | exact HB.out | apply below_alloc | apply pw_below_drewN | apply below_drew1) | exact HB.out)) hb); clear HB; have HB := n0_; clear n0_; (try clear hb); (try clear hb2); (try clear hk); (try clear hi)) | (go_at_call 14; (with_reducible refine (clock_Margin.calls (wrap64 (ji6)) (wrap64 (a2)) (wrap64 ((wrap64 (a3)) + (wrap64 (a4)))) t110 _ A18.out).mono ?_); rintro e w21 ⟨rfl, hb⟩; have n0_ := Aside0.mk (below_step (by repeat (first | (with_reducible first | exact HB.out | apply below_alloc | apply pw_below_drewN | apply below_drew1) | exact HB.out)) hb); clear HB; have HB := n0_; clear n0_; (try clear hb); (try clear hb2); (try clear hk); (try clear hi)))
        go_meet
        case rel => exact ⟨_, (decide (t110 > t107)), (by first | rfl | (simp; done) | (simp [*]; done)), H', ⟨by first | omega | exact Nat.le_refl _⟩, ⟨by repeat (first | (with_reducible first | exact HB.out | apply below_alloc | apply pw_below_drewN | apply below_drew1) | exact HB.out)⟩⟩
  case rest =>
    clear HC9
    try clear c1
    try clear p2
    try clear c3
    try clear p6
    try clear c12
    try clear c12b0
    try clear c14
    try clear c15
    try clear c15b0
    obtain ⟨kq, x61_8, rfl, HA, HJ8, HB⟩ := hcut
    cases kq with
    | zero => exact absurd HA.out (by simp [weirkeeplaw05_ClockMargins.j0])
    | succ kj8 =>
      have H := HA.out
      clear HA
      simp only [weirkeeplaw05_ClockMargins.j0] at H
      by_cases c22 : x61_8 = true
      · subst c22
        have H1 : (some false) = some r := by rw [if_pos rfl] at H; exact H
        clear H
        have H := H1
        clear H1
        obtain rfl := Option.some.inj H
        go_wp2
        go_ret
        exact ⟨by first | rfl | (simp [errW_none, errW_some] <;> rfl) | (simp only [← hji6, ← hji7]; first | rfl | (simp [errW_none, errW_some] <;> rfl)) | (simp [*, errW_none, errW_some] <;> rfl), by repeat (first | (with_reducible first | exact HB.out | apply below_alloc | apply pw_below_drewN | apply below_drew1) | exact HB.out)⟩
      · replace c22 := Bool.eq_false_iff.mpr c22
        subst c22
        have H1 : (if t107 ≤ (wrap64 (ji6)) then ((clock_Margin.f (wrap64 (ji6)) 0 0).bind fun t111 => (if t111 = (wrap64 (ji6)) then ((weirkeepref05_Margin.f (wrap64 (ji6)) (wrap64 (a2)) (wrap64 (a3))).bind fun t112 => (if t107 = t112 then ((clock_Margin.f 10 0 0).bind fun t113 => (some (t113 == 10))) else (some false))) else (some false))) else (some false)) = some r := by rw [if_neg (show ¬ (false = true) by decide)] at H; exact H
        clear H
        have H := H1
        clear H1
        by_cases c23 : t107 ≤ (wrap64 (ji6))
        · rw [if_pos c23] at H
          have c23b0 : decide (t107 ≤ (wrap64 (ji6))) = true := decide_eq_true c23
          clear c23
          replace H := Option.bind_eq_some_iff.mp H
          obtain ⟨t111, A240, H⟩ := H
          replace H : (if t111 = (wrap64 (ji6)) then ((weirkeepref05_Margin.f (wrap64 (ji6)) (wrap64 (a2)) (wrap64 (a3))).bind fun t112 => (if t107 = t112 then ((clock_Margin.f 10 0 0).bind fun t113 => (some (t113 == 10))) else (some false))) else (some false)) = some r := H
          have A24 := Aside0.mk A240
          clear A240
          by_cases c25 : t111 = (wrap64 (ji6))
          · rw [if_pos c25] at H
            have c25b0 : (t111 == (wrap64 (ji6))) = true := beq_iff_eq.mpr c25
            have c25b1 : (t111 != (wrap64 (ji6))) = false := bne_eq_false_iff_eq.mpr c25
            clear c25
            replace H := Option.bind_eq_some_iff.mp H
            obtain ⟨t112, A260, H⟩ := H
            replace H : (if t107 = t112 then ((clock_Margin.f 10 0 0).bind fun t113 => (some (t113 == 10))) else (some false)) = some r := H
            have A26 := Aside0.mk A260
            clear A260
            by_cases c27 : t107 = t112
            · rw [if_pos c27] at H
              have c27b0 : (t107 == t112) = true := beq_iff_eq.mpr c27
              have c27b1 : (t107 != t112) = false := bne_eq_false_iff_eq.mpr c27
              clear c27
              replace H := Option.bind_eq_some_iff.mp H
              obtain ⟨t113, A280, H⟩ := H
              replace H : (some (t113 == 10)) = some r := H
              have A28 := Aside0.mk A280
              clear A280
              obtain rfl := Option.some.inj H
              go_wp2_with (first | (go_at_call 14; (with_reducible refine (clock_Margin.calls (wrap64 (ji6)) 0 0 t111 _ A24.out).mono ?_); rintro e w29 ⟨rfl, hb⟩; have n0_ := Aside0.mk (below_step (by repeat (first | (with_reducible first | exact HB.out | apply below_alloc | apply pw_below_drewN | apply below_drew1) | exact HB.out)) hb); clear HB; have HB := n0_; clear n0_; (try clear hb); (try clear hb2); (try clear hk); (try clear hi)) | (go_at_call 15; (with_reducible refine (weirkeepref05_Margin.calls (wrap64 (ji6)) (wrap64 (a2)) (wrap64 (a3)) t112 _ A26.out).mono ?_); rintro e w30 ⟨rfl, hb⟩; have n0_ := Aside0.mk (below_step (by repeat (first | (with_reducible first | exact HB.out | apply below_alloc | apply pw_below_drewN | apply below_drew1) | exact HB.out)) hb); clear HB; have HB := n0_; clear n0_; (try clear hb); (try clear hb2); (try clear hk); (try clear hi)) | (go_at_call 14; (with_reducible refine (clock_Margin.calls 10 0 0 t113 _ A28.out).mono ?_); rintro e w31 ⟨rfl, hb⟩; have n0_ := Aside0.mk (below_step (by repeat (first | (with_reducible first | exact HB.out | apply below_alloc | apply pw_below_drewN | apply below_drew1) | exact HB.out)) hb); clear HB; have HB := n0_; clear n0_; (try clear hb); (try clear hb2); (try clear hk); (try clear hi)))
              go_ret
              exact ⟨by first | rfl | (simp [errW_none, errW_some] <;> rfl) | (simp only [← hji6, ← hji7]; first | rfl | (simp [errW_none, errW_some] <;> rfl)) | (simp [*, errW_none, errW_some] <;> rfl), by repeat (first | (with_reducible first | exact HB.out | apply below_alloc | apply pw_below_drewN | apply below_drew1) | exact HB.out)⟩
            · rw [if_neg c27] at H
              have c27b0 : (t107 == t112) = false := beq_eq_false_iff_ne.mpr c27
              have c27b1 : (t107 != t112) = true := bne_iff_ne.mpr c27
              obtain rfl := Option.some.inj H
              go_wp2_with (first | (go_at_call 14; (with_reducible refine (clock_Margin.calls (wrap64 (ji6)) 0 0 t111 _ A24.out).mono ?_); rintro e w32 ⟨rfl, hb⟩; have n0_ := Aside0.mk (below_step (by repeat (first | (with_reducible first | exact HB.out | apply below_alloc | apply pw_below_drewN | apply below_drew1) | exact HB.out)) hb); clear HB; have HB := n0_; clear n0_; (try clear hb); (try clear hb2); (try clear hk); (try clear hi)) | (go_at_call 15; (with_reducible refine (weirkeepref05_Margin.calls (wrap64 (ji6)) (wrap64 (a2)) (wrap64 (a3)) t112 _ A26.out).mono ?_); rintro e w33 ⟨rfl, hb⟩; have n0_ := Aside0.mk (below_step (by repeat (first | (with_reducible first | exact HB.out | apply below_alloc | apply pw_below_drewN | apply below_drew1) | exact HB.out)) hb); clear HB; have HB := n0_; clear n0_; (try clear hb); (try clear hb2); (try clear hk); (try clear hi)))
              go_ret
              exact ⟨by first | rfl | (simp [errW_none, errW_some] <;> rfl) | (simp only [← hji6, ← hji7]; first | rfl | (simp [errW_none, errW_some] <;> rfl)) | (simp [*, errW_none, errW_some] <;> rfl), by repeat (first | (with_reducible first | exact HB.out | apply below_alloc | apply pw_below_drewN | apply below_drew1) | exact HB.out)⟩
          · rw [if_neg c25] at H
            have c25b0 : (t111 == (wrap64 (ji6))) = false := beq_eq_false_iff_ne.mpr c25
            have c25b1 : (t111 != (wrap64 (ji6))) = true := bne_iff_ne.mpr c25
            obtain rfl := Option.some.inj H
            go_wp2_with (first | (go_at_call 14; (with_reducible refine (clock_Margin.calls (wrap64 (ji6)) 0 0 t111 _ A24.out).mono ?_); rintro e w34 ⟨rfl, hb⟩; have n0_ := Aside0.mk (below_step (by repeat (first | (with_reducible first | exact HB.out | apply below_alloc | apply pw_below_drewN | apply below_drew1) | exact HB.out)) hb); clear HB; have HB := n0_; clear n0_; (try clear hb); (try clear hb2); (try clear hk); (try clear hi)))
            go_ret
            exact ⟨by first | rfl | (simp [errW_none, errW_some] <;> rfl) | (simp only [← hji6, ← hji7]; first | rfl | (simp [errW_none, errW_some] <;> rfl)) | (simp [*, errW_none, errW_some] <;> rfl), by repeat (first | (with_reducible first | exact HB.out | apply below_alloc | apply pw_below_drewN | apply below_drew1) | exact HB.out)⟩
        · rw [if_neg c23] at H
          have c23b0 : decide (t107 ≤ (wrap64 (ji6))) = false := decide_eq_false c23
          clear c23
          obtain rfl := Option.some.inj H
          go_wp2
          go_ret
          exact ⟨by first | rfl | (simp [errW_none, errW_some] <;> rfl) | (simp only [← hji6, ← hji7]; first | rfl | (simp [errW_none, errW_some] <;> rfl)) | (simp [*, errW_none, errW_some] <;> rfl), by repeat (first | (with_reducible first | exact HB.out | apply below_alloc | apply pw_below_drewN | apply below_drew1) | exact HB.out)⟩

/-- THE ONE PURE STATEMENT of weirkeeplaw05_ClockMargins: yours. -/
def weirkeeplaw05_ClockMargins.Pure : Prop := ∀ (a0 : Int) (a1 : Int) (a2 : Int) (a3 : Int) (a4 : Int), (Lit.int .u32 a0).wf = true → (Lit.int .u32 a1).wf = true → (Lit.int .u8 a2).wf = true → (Lit.int .u8 a3).wf = true → (Lit.int .u8 a4).wf = true → ∃ k, weirkeeplaw05_ClockMargins.f k a0 a1 a2 a3 a4 = some true
theorem weirkeeplaw05_ClockMargins.walk (P : weirkeeplaw05_ClockMargins.Pure) (a0 : Int) (a1 : Int) (a2 : Int) (a3 : Int) (a4 : Int) (w : World) (w0 : (Lit.int .u32 a0).wf = true) (w1 : (Lit.int .u32 a1).wf = true) (w2 : (Lit.int .u8 a2).wf = true) (w3 : (Lit.int .u8 a3).wf = true) (w4 : (Lit.int .u8 a4).wf = true) :
    Calls Try.prog 3 #[.int .u32 a0, .int .u32 a1, .int .u8 a2, .int .u8 a3, .int .u8 a4] w fun e w' => e = .returned (.bool true) ∧ Below w.heap.size w w' := by
  obtain ⟨k, h⟩ := P a0 a1 a2 a3 a4 w0 w1 w2 w3 w4
  refine (weirkeeplaw05_ClockMargins.calls k a0 a1 a2 a3 a4 true w h).mono ?_
  rintro e w' ⟨rfl, hd⟩
  exact ⟨rfl, hd⟩

end Go.Proofs.Ytdaapkbgfabmaaa.PClockMargins
