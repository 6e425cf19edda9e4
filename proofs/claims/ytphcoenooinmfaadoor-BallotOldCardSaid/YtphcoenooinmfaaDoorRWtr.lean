/- The document's writer (weirkeepref01): what its calls come to. Premise of the contracts: the writer's bytes lie in memory of its own. (Written by wip/tools/genRWtr.py.) -/
import Derived.Test.YtphcoenooinmfaaDoorWtr2
import Derived.Deep.DeepCutAuto
namespace Go.Proofs.YtphcoenooinmfaaDoor
open Go.RowKit
set_option linter.unusedVariables false
set_option linter.unusedSimpArgs false
attribute [local go_sem ↓] Go.wp_at_zero Go.wp_at_succ

theorem results_cell1 {fn : Func} {p : Tmp} {ty : TypeId} (h : fn.results = #[.cell p ty]) (tmps : Array Value) (P : Program) (w : World) :
    (results fn tmps).run P w = ((asAddr (tmps.getD p undef)).run P w).andThen fun a w₁ => (loadVar ty a).run P w₁ := by
  simp only [results, h]
  simp [Sem.run_bind, Result.andThen]
/-- A fault of the document's: its errors l lie in the blocks E. -/
def RF (w : World) (v : Value) (l : List Int) (E : List Nat) : Prop :=
  ∃ sv at_, v = .agg #[sv, .int .i64 at_] ∧ w.ownsRow 0 22 1 sv l.length (ints l) ∧ ∀ g, sv.ownBlock = some g → g ∈ E
theorem RF.mod {S : List Nat} {w w' : World} {v : Value} {l : List Int} {E : List Nat} (h : RF w v l E) (m : Mod S w w') (hs : ∀ x, x ∈ E → x ∉ S) : RF w' v l E := by
  obtain ⟨sv, a, h1, h2, h3⟩ := h
  exact ⟨sv, a, h1, own_mod h2 m (fun k hk => hs k (h3 k hk)), h3⟩
theorem RF.mod0 {w w' : World} {v : Value} {l : List Int} {E : List Nat} (h : RF w v l E) (m : Mod [] w w') : RF w' v l E := h.mod m (by simp)
theorem RF.none (w : World) : RF w (.agg #[.slice none 0 0, .int .i64 0]) [] [] := ⟨_, _, rfl, own_nil _ _ _ _, fun g hg => by simp [Value.ownBlock] at hg⟩
/-- A block of one number, as a row. -/
theorem own_one (w : World) (e : Int) : (w.alloc (.cells #[.int .i64 e] 22)).ownsRow 0 22 1 (.slice (some ⟨w.heap.size, 0, none⟩) 1 1) 1 (ints [e]) :=
  ⟨rfl, .inr ⟨w.heap.size, 1, #[.int .i64 e], rfl, Nat.zero_le _, heap_alloc_new w _, Nat.le_refl _, by decide, rfl, rfl⟩⟩
set_option maxHeartbeats 1000000 in
theorem one_calls (w : World) (e a : Int) :
    Calls Tryd.prog 76 #[.int .i64 e, .int .i64 a] w fun r w' => r = .returned (.agg #[.slice (some ⟨w.heap.size + 1, 0, none⟩) 1 1, .int .i64 a]) ∧ w'.ownsRow 0 22 1 (.slice (some ⟨w.heap.size + 1, 0, none⟩) 1 1) 1 (ints [e]) ∧ Mod [] w w' := by
  obtain ⟨w1, hw1⟩ : ∃ w1, w1 = w.alloc (.cells #[.slice (some ⟨w.heap.size + 1, 0, none⟩) 1 1, .int .i64 a] 112) := ⟨_, rfl⟩
  have hz : w1.heap.size = w.heap.size + 1 := by rw [hw1]; simp
  have ho := own_one w1 e
  rw [hz] at ho
  have m1 : Mod [] w (w1.alloc (.cells #[.int .i64 e] 22)) := by rw [hw1]; exact ((Mod.refl _ _).alloc _).alloc _
  rw [hw1] at ho m1
  have HO := Lib.hid ho
  have M1 := Lib.hid m1
  clear ho m1 hz hw1
  go_enter Tryd.func76, Tryd.ntmps76
  go_wp2
  (try simp only [Exit.inBlock, Exit.then])
  refine bodyPost_ret (v := .agg #[.slice (some ⟨w.heap.size + 1, 0, none⟩) 1 1, .int .i64 a]) ?_ rfl ?_
  · rw [results_cell1 rfl]
    go_simp
  · exact ⟨rfl, HO.out, M1.out⟩
theorem oneRF_calls (w : World) (e a : Int) :
    Calls Tryd.prog 76 #[.int .i64 e, .int .i64 a] w fun r w' => ∃ sv, r = .returned (.agg #[sv, .int .i64 a]) ∧ RF w' (.agg #[sv, .int .i64 a]) [e] [w.heap.size + 1] ∧ (∃ A c, sv = .slice A 1 c) ∧ Mod [] w w' := by
  refine (one_calls w e a).mono ?_
  rintro r w' ⟨rfl, ho, m⟩
  exact ⟨_, rfl, ⟨_, _, rfl, ho, fun g hg => by simp [Value.ownBlock] at hg; simp [hg]⟩, ⟨_, _, rfl⟩, m⟩
theorem rwide_calls (w : World) (k : Int) (b : Bool) (hb : wideB k = b) :
    Calls Tryd.prog 75 #[.int .i64 k] w fun r w' => r = .returned (.bool b) ∧ w = w' := by
  subst hb
  by_cases hw : wideB k = true
  · have hk4 : k = 1 ∨ k = 2 ∨ k = 4 ∨ k = 8 := by simpa [wideB] using hw
    rw [hw]
    clear hw
    rcases hk4 with rfl | rfl | rfl | rfl
    all_goals
      go_enter Tryd.func75, Tryd.ntmps75
      go_wp2
      go_ret
      exact ⟨rfl, rfl⟩
  · have ne1 : (k == 1) = false := by simp [wideB] at hw; simp; omega
    have ne2 : (k == 2) = false := by simp [wideB] at hw; simp; omega
    have ne4 : (k == 4) = false := by simp [wideB] at hw; simp; omega
    have ne8 : (k == 8) = false := by simp [wideB] at hw; simp; omega
    have hw' : wideB k = false := by simpa using hw
    rw [hw']
    clear hw hw'
    go_enter Tryd.func75, Tryd.ntmps75
    go_wp2
    go_ret
    exact ⟨rfl, rfl⟩
theorem wide_casesW {k : Int} (h : wideB k = true) : k = 1 ∨ k = 2 ∨ k = 4 ∨ k = 8 := by simpa [wideB] using h
/-- What a writing call of the document's leaves. -/
def RWrPost (w : World) (T b : Nat) (F : List Nat) (l : List Int) (bs' : List UInt8) (r : Ending) (w' : World) : Prop :=
  ∃ v E F', r = .returned v ∧ RF w' v l E ∧ (∀ x, x ∈ E → w.heap.size ≤ x ∧ x ∉ F') ∧ Wtr w' T b bs' F' ∧ Grow F F' w w'
theorem RWrPost.bad {w w' : World} {T b : Nat} {bs : List UInt8} {F : List Nat} {l : List Int} {v : Value} {E : List Nat} (hW : Wtr w T b bs F) (hE : RF w' v l E) (hx : ∀ x, x ∈ E → w.heap.size ≤ x) (m : Mod [] w w') : RWrPost w T b F l bs (.returned v) w' :=
  ⟨v, E, F, rfl, hE, fun x h => ⟨hx x h, fun hF => by have := hx x h; have := hW.lt x hF; omega⟩, hW.mod0 m, Grow.of_mod m⟩
theorem RWrPost.good {w w' : World} {T b : Nat} {bs : List UInt8} {F F' : List Nat} (hW : Wtr w' T b bs F') (hG : Grow F F' w w') : RWrPost w T b F [] bs (.returned (.agg #[.slice none 0 0, .int .i64 0])) w' :=
  ⟨_, [], F', rfl, RF.none _, by simp, hW, hG⟩
theorem RWrPost.badS {w w1 : World} {T b : Nat} {bs : List UInt8} {F : List Nat} {l : List Int} {v : Value} {E : List Nat} (hW : Wtr w T b bs F) (hE : RF w1 v l E) (hx : ∀ x, x ∈ E → w.heap.size < x) (m : Mod [] w w1) (u0 u1 : Value) :
    RWrPost w T b F l bs (.returned v) ((w1.setCell ⟨w.heap.size, 0, none⟩ u0).setCell ⟨w.heap.size, 1, none⟩ u1) :=
  RWrPost.bad hW (hE.mod (S := [w.heap.size]) (((Mod.refl _ _).setCell (.inl (by simp)) _).setCell (.inl (by simp)) _) (fun x h => by have := hx x h; simp; omega)) (fun x h => by have := hx x h; omega) ((m.setCell (.inr (Nat.le_refl _)) _).setCell (.inr (Nat.le_refl _)) _)
theorem RWrPost.goodS {w w0 w1 : World} {T b : Nat} {bs : List UInt8} {F F' : List Nat} (hl : ∀ x, x ∈ F → x < w.heap.size) (m0 : Mod [] w w0) (hz : w0.heap.size = w.heap.size + 1) (hW : Wtr w1 T b bs F') (hG : Grow F F' w0 w1) (u0 u1 : Value) :
    RWrPost w T b F [] bs (.returned (.agg #[.slice none 0 0, .int .i64 0])) ((w1.setCell ⟨w.heap.size, 0, none⟩ u0).setCell ⟨w.heap.size, 1, none⟩ u1) := by
  have hn : ∀ x, x ∈ F' → x ≠ w.heap.size := fun x hx => by
    rcases hG.new x hx with h1 | h1
    · have := hl x h1; omega
    · omega
  have ms : Mod [w.heap.size] w1 ((w1.setCell ⟨w.heap.size, 0, none⟩ u0).setCell ⟨w.heap.size, 1, none⟩ u1) := ((Mod.refl _ _).setCell (.inl (by simp)) _).setCell (.inl (by simp)) _
  refine RWrPost.good (hW.mod ms (fun x hx => by simpa using hn x hx)) ⟨(m0.nil.trans hG.mod).fresh ms (fun x hx => .inr (by simp at hx; omega)), fun x hx => ?_⟩
  rcases hG.new x hx with h1 | h1
  · exact .inl h1
  · exact .inr (by omega)
/-- The result's cells. -/
theorem res_arr (w : World) : Arr (w.alloc (.cells #[.slice none 0 0, .int .i64 0] 112)) w.heap.size 112 2 (fun i => if i = 0 then .slice none 0 0 else .int .i64 0) :=
  Arr.new' w #[.slice none 0 0, .int .i64 0] 112 2 _ rfl (fun i hi => by
    match i, hi with
    | 0, _ => rfl
    | 1, _ => rfl)
set_option maxRecDepth 100000 in
set_option maxHeartbeats 8000000 in
theorem rwnum_calls (w : World) (b : Nat) (bs : List UInt8) (F : List Nat) (n k : Int) (hW : Wtr w 110 b bs F) (n0 : -9223372036854775808 ≤ n) (n1 : n ≤ 9223372036854775807) (k0 : -9223372036854775808 ≤ k) (k1 : k ≤ 9223372036854775807) (hl : bs.length ≤ 400000) :
    Calls Tryd.prog 54 #[.pointer (some ⟨b, 0, none⟩), .int .i64 n, .int .i64 k] w (RWrPost w 110 b F (numL n k) (numB bs n k)) := by
  have HW := Lib.hid hW
  have WI := Lib.hid (rwide_calls (w.alloc (.cells #[.slice none 0 0, .int .i64 0] 112)) k _ rfl)
  have m0 : Mod [] w (w.alloc (.cells #[.slice none 0 0, .int .i64 0] 112)) := (Mod.refl _ _).alloc _
  have hW1 := hW.mod0 m0
  have HW1 := Lib.hid hW1
  have M0 := Lib.hid m0
  have ONE := Lib.hid (oneRF_calls (w.alloc (.cells #[.slice none 0 0, .int .i64 0] 112)) 1 bs.length)
  obtain ⟨v, hA, ho, _⟩ := hW1.ex
  have c0 := hA.cell 0 (by omega)
  obtain ⟨A9, cap9, rfl, hc9, hc9', _⟩ := (own_slA ho).ex
  have HC := Lib.hid hc9'
  have hsz1 : w.heap.size + 1 = (w.alloc (.cells #[.slice none 0 0, .int .i64 0] 112)).heap.size := by simp
  have HSZ := Lib.hid hsz1
  clear hA ho hc9' hW hW1 m0 hsz1
  by_cases hfit : fitB n k = true
  rotate_left
  · have hf := Lib.hid (fit_no (by simpa using hfit))
    by_cases hw : wideB k = true
    · rw [hw] at WI
      have hk4 := wide_casesW hw
      have hfit' : ¬ (0 ≤ n ∧ (k = 8 ∨ n < 2 ^ (8 * k.toNat))) := by
        intro h
        exact hfit (by simpa [fitB, wideB] using ⟨hk4, h⟩)
      clear hfit hw
      by_cases hn : n < 0
      · have t1 : decide (n < 0) = true := by simpa using hn
        clear hfit' hn hk4
        go_enter Tryd.func54, Tryd.ntmps54
        go_wp2_with fail
        refine WI.out.mono ?_
        rintro r w1 ⟨rfl, rfl⟩
        go_wp2_with fail
        refine ONE.out.mono ?_
        rintro r w1 ⟨sv, rfl, hRF, ⟨A, c, rfl⟩, m1⟩
        have hAR := (res_arr w).mod m1 (by simp)
        have r0 := hAR.cell 0 (by omega)
        have r1 := hAR.cell 1 (by omega)
        have g0 := hAR.free 0
        have g1 := hAR.free 1
        simp only [if_true, if_false, Nat.reduceEqDiff] at r0 r1
        have FIN := Lib.hid (And.intro hRF m1)
        clear hRF m1 hAR
        go_wp2
        (try simp only [Exit.inBlock, Exit.then])
        refine bodyPost_ret (v := .agg #[.slice A 1 c, .int .i64 bs.length]) ?_ rfl ?_
        · rw [results_cell1 rfl]
          go_simp
        · rw [hf.out.1, hf.out.2]
          exact RWrPost.badS HW.out FIN.out.1 (fun x hx => by have := HSZ.out; simp at hx; omega) (M0.out.trans FIN.out.2) _ _
      · have hn0 : 0 ≤ n := by omega
        have t1 : decide (n < 0) = false := by simpa using hn
        rcases hk4 with rfl | rfl | rfl | rfl
        · have hm : 256 ≤ n := by simp at hfit'; omega
          have t2 : decide ((256 : Int) ≤ n) = true := by simpa using hm
          clear hfit' hn
          go_enter Tryd.func54, Tryd.ntmps54
          go_wp2_with fail
          refine WI.out.mono ?_
          rintro r w1 ⟨rfl, rfl⟩
          go_wp2_with fail
          refine ONE.out.mono ?_
          rintro r w1 ⟨sv, rfl, hRF, ⟨A, c, rfl⟩, m1⟩
          have hAR := (res_arr w).mod m1 (by simp)
          have r0 := hAR.cell 0 (by omega)
          have r1 := hAR.cell 1 (by omega)
          have g0 := hAR.free 0
          have g1 := hAR.free 1
          simp only [if_true, if_false, Nat.reduceEqDiff] at r0 r1
          have FIN := Lib.hid (And.intro hRF m1)
          clear hRF m1 hAR
          go_wp2
          (try simp only [Exit.inBlock, Exit.then])
          refine bodyPost_ret (v := .agg #[.slice A 1 c, .int .i64 bs.length]) ?_ rfl ?_
          · rw [results_cell1 rfl]
            go_simp
          · rw [hf.out.1, hf.out.2]
            exact RWrPost.badS HW.out FIN.out.1 (fun x hx => by have := HSZ.out; simp at hx; omega) (M0.out.trans FIN.out.2) _ _
        · have hm : 65536 ≤ n := by simp at hfit'; omega
          have t2 : decide ((65536 : Int) ≤ n) = true := by simpa using hm
          clear hfit' hn
          go_enter Tryd.func54, Tryd.ntmps54
          go_wp2_with fail
          refine WI.out.mono ?_
          rintro r w1 ⟨rfl, rfl⟩
          go_wp2_with fail
          refine ONE.out.mono ?_
          rintro r w1 ⟨sv, rfl, hRF, ⟨A, c, rfl⟩, m1⟩
          have hAR := (res_arr w).mod m1 (by simp)
          have r0 := hAR.cell 0 (by omega)
          have r1 := hAR.cell 1 (by omega)
          have g0 := hAR.free 0
          have g1 := hAR.free 1
          simp only [if_true, if_false, Nat.reduceEqDiff] at r0 r1
          have FIN := Lib.hid (And.intro hRF m1)
          clear hRF m1 hAR
          go_wp2
          (try simp only [Exit.inBlock, Exit.then])
          refine bodyPost_ret (v := .agg #[.slice A 1 c, .int .i64 bs.length]) ?_ rfl ?_
          · rw [results_cell1 rfl]
            go_simp
          · rw [hf.out.1, hf.out.2]
            exact RWrPost.badS HW.out FIN.out.1 (fun x hx => by have := HSZ.out; simp at hx; omega) (M0.out.trans FIN.out.2) _ _
        · have hm : 4294967296 ≤ n := by simp at hfit'; omega
          have t2 : decide ((4294967296 : Int) ≤ n) = true := by simpa using hm
          clear hfit' hn
          go_enter Tryd.func54, Tryd.ntmps54
          go_wp2_with fail
          refine WI.out.mono ?_
          rintro r w1 ⟨rfl, rfl⟩
          go_wp2_with fail
          refine ONE.out.mono ?_
          rintro r w1 ⟨sv, rfl, hRF, ⟨A, c, rfl⟩, m1⟩
          have hAR := (res_arr w).mod m1 (by simp)
          have r0 := hAR.cell 0 (by omega)
          have r1 := hAR.cell 1 (by omega)
          have g0 := hAR.free 0
          have g1 := hAR.free 1
          simp only [if_true, if_false, Nat.reduceEqDiff] at r0 r1
          have FIN := Lib.hid (And.intro hRF m1)
          clear hRF m1 hAR
          go_wp2
          (try simp only [Exit.inBlock, Exit.then])
          refine bodyPost_ret (v := .agg #[.slice A 1 c, .int .i64 bs.length]) ?_ rfl ?_
          · rw [results_cell1 rfl]
            go_simp
          · rw [hf.out.1, hf.out.2]
            exact RWrPost.badS HW.out FIN.out.1 (fun x hx => by have := HSZ.out; simp at hx; omega) (M0.out.trans FIN.out.2) _ _
        · exact absurd ⟨hn0, .inl rfl⟩ hfit'
    · have hw' : wideB k = false := by simpa using hw
      rw [hw'] at WI
      clear hfit hw hw'
      go_enter Tryd.func54, Tryd.ntmps54
      go_wp2_with fail
      refine WI.out.mono ?_
      rintro r w1 ⟨rfl, rfl⟩
      go_wp2_with fail
      refine ONE.out.mono ?_
      rintro r w1 ⟨sv, rfl, hRF, ⟨A, c, rfl⟩, m1⟩
      have hAR := (res_arr w).mod m1 (by simp)
      have r0 := hAR.cell 0 (by omega)
      have r1 := hAR.cell 1 (by omega)
      have g0 := hAR.free 0
      have g1 := hAR.free 1
      simp only [if_true, if_false, Nat.reduceEqDiff] at r0 r1
      have FIN := Lib.hid (And.intro hRF m1)
      clear hRF m1 hAR
      go_wp2
      (try simp only [Exit.inBlock, Exit.then])
      refine bodyPost_ret (v := .agg #[.slice A 1 c, .int .i64 bs.length]) ?_ rfl ?_
      · rw [results_cell1 rfl]
        go_simp
      · rw [hf.out.1, hf.out.2]
        exact RWrPost.badS HW.out FIN.out.1 (fun x hx => by have := HSZ.out; simp at hx; omega) (M0.out.trans FIN.out.2) _ _
  · have hf := Lib.hid (fit_yes hfit)
    have hfit' : (k = 1 ∨ k = 2 ∨ k = 4 ∨ k = 8) ∧ 0 ≤ n ∧ (k = 8 ∨ n < 2 ^ (8 * k.toNat)) := by simpa [fitB, wideB] using hfit
    obtain ⟨hk4, hn0, hnk⟩ := hfit'
    have hw : wideB k = true := by simpa [wideB] using hk4
    rw [hw] at WI
    obtain ⟨nn, rfl⟩ : ∃ nn : Nat, n = (nn : Int) := ⟨n.toNat, by omega⟩
    have hn9 : nn < 9223372036854775808 := by omega
    have t1 : decide ((nn : Int) < 0) = false := by simp
    clear hfit hw
    rcases hk4 with rfl | rfl | rfl | rfl
    · have hm : (nn : Int) < 256 := by simp at hnk; omega
      have t2 : decide ((256 : Int) ≤ (nn : Int)) = false := by simp; omega
      clear hnk
      go_enter Tryd.func54, Tryd.ntmps54
      go_wp2_with fail
      refine WI.out.mono ?_
      rintro r w1 ⟨rfl, rfl⟩
      obtain ⟨w0, hw0⟩ : ∃ w0, w0 = w.alloc (.cells #[.slice none 0 0, .int .i64 0] 112) := ⟨_, rfl⟩
      rw [← hw0] at HSZ HW1 M0 c0 ⊢
      have RA : Hid (Arr w0 w.heap.size 112 2 (fun i => if i = 0 then .slice none 0 0 else .int .i64 0)) := Lib.hid (by rw [hw0]; exact res_arr w)
      clear hw0 WI ONE c0
      go_wp2
      go_loopw [1, 7] (fun x i wr => ∃ (j : Nat) (F' : List Nat), j ≤ 1 ∧ i = .int .i64 j ∧ x = .int .i64 ((nn / 256 ^ j : Nat) : Int) ∧ Wtr wr 110 b (bs ++ leB nn j) F' ∧ Grow F F' w0 wr) (fun _ i _ => 1 - (intOf i).toNat)
      case atStart => exact ⟨0, F, Nat.zero_le _, rfl, by simp, by rw [leB_zero, List.append_nil]; exact HW1.out, Grow.refl _ _⟩
      case round =>
        obtain ⟨j, F', hj, rfl, rfl, hR, hG⟩ := hrel
        by_cases hlt : j < 1
        · have i2 : (j : Int) < 1 := by omega
          obtain ⟨v, hA, ho, hg⟩ := hR.ex
          have hlen : (bs ++ leB nn j).length ≤ 600000 := by simp [leB_length]; omega
          have HG := Lib.hid hG
          have HR := Lib.hid hR
          obtain ⟨nj, hnj⟩ : ∃ nj : Nat, nj = nn / 256 ^ j := ⟨_, rfl⟩
          have hnj1 : nj < 9223372036854775808 := by rw [hnj]; exact Nat.lt_of_le_of_lt (Nat.div_le_self _ _) hn9
          have hsuc : nn / 256 ^ (j + 1) = nj / 256 := by rw [hnj, Nat.pow_succ, Nat.div_div_eq_div_mul]
          have hbl : bs ++ leB nn (j + 1) = (bs ++ leB nn j) ++ [UInt8.ofNat (nj % 256)] := by rw [leB_succ, hnj, List.append_assoc]
          have HS := Lib.hid hsuc
          have HBL := Lib.hid hbl
          rw [← hnj]
          obtain ⟨bj, hbj⟩ : ∃ bj, bj = bs ++ leB nn j := ⟨_, rfl⟩
          have HBJ := Lib.hid hbj
          rw [← hbj] at ho hlen
          obtain ⟨w2, hw2⟩ : ∃ w2, w2 = wr.alloc (.cells #[.int .u8 ((nj : Int) % 256)] 5) := ⟨_, rfl⟩
          have m2 : Mod [] wr w2 := by rw [hw2]; exact (Mod.refl _ _).alloc _
          have cn : w2.cell? ⟨wr.heap.size, 0, none⟩ = some (.int .u8 ((nj : Int) % 256)) := by rw [hw2]; exact new_cell1 wr _ _ _ rfl
          have hA2 := hA.mod m2 (by simp)
          have ho2 := own_mod ho m2 (by simp)
          have c0 := hA.cell 0 (by omega)
          have hzz := m2.size
          have HA := Lib.hid hA
          have HA2 := Lib.hid hA2
          have HW2 := Lib.hid hw2
          have M2 := Lib.hid m2
          have HGG := Lib.hid hg
          clear hG hR hnj hsuc hbl hbj hw2 m2 hA hA2 ho hg
          go_wp2_with (
            at_builtin
            rw [← HW2.out]
            refine app1 0 80 5 (.int .u8 0) 1 1 Tryd.underlying80 u8_info rfl (by omega) (by omega) rfl _ _ rfl v _ _ rfl ho2 wr.heap.size [.int .u8 ((nj : Int) % 256)] rfl rfl (news1 cn) (by simp [Value.oneCell']) (by omega) (by omega) ?_
            intro ga cap w3 ho3 m3 hg3 hb3
            have hbn : b ∉ v.ownBlock.toList := fun hx => (HGG.out b (by simpa using hx)).2 rfl
            have hA3 := HA2.out.mod m3 hbn
            have c3 := hA3.cell 0 (by omega)
            have f3 := hA3.free 0
            have ST := Lib.hid ((HR.out.mod0 M2.out).stored HA2.out HGG.out m3 ho3 (bs' := bj ++ [UInt8.ofNat (nj % 256)]) (by simp) (by simp [u8_ofNat]) (fun g e => by
              simp only [Value.ownBlock, Option.map_some, Option.some.injEq] at e
              rcases hg3 with h1 | h1
              · left; rw [h1]; simp_all
              · right; omega))
            clear hA3 ho3 m3 ho2 cn hbn)
          go_roundw
          case rel =>
            obtain ⟨F2, hW2, hG2⟩ := ST.out
            exact ⟨j + 1, F2, by omega, by go_num, by rw [HS.out]; simp, by rw [HBL.out, ← HBJ.out]; exact hW2, HG.out.trans ((Grow.of_mod M2.out).trans hG2)⟩
          case measure => simp [intOf]; omega
        · have i2 : ¬ (j : Int) < 1 := by omega
          obtain rfl : j = 1 := by omega
          have hAR := RA.out.mod hG.mod (fun hx => by have := HW.out.lt _ hx; omega)
          have r0 := hAR.cell 0 (by omega)
          have r1 := hAR.cell 1 (by omega)
          have g0 := hAR.free 0
          have g1 := hAR.free 1
          simp only [if_true, if_false, Nat.reduceEqDiff] at r0 r1
          have FIN := Lib.hid (And.intro hR hG)
          clear hR hG hAR
          go_wp2
          (try simp only [Exit.inBlock, Exit.then])
          refine bodyPost_ret (v := .agg #[.slice none 0 0, .int .i64 0]) ?_ rfl ?_
          · rw [results_cell1 rfl]
            go_simp
          · rw [hf.out.1, hf.out.2]
            exact RWrPost.goodS HW.out.lt M0.out HSZ.out.symm FIN.out.1 FIN.out.2 _ _
    · have hm : (nn : Int) < 65536 := by simp at hnk; omega
      have t2 : decide ((65536 : Int) ≤ (nn : Int)) = false := by simp; omega
      clear hnk
      go_enter Tryd.func54, Tryd.ntmps54
      go_wp2_with fail
      refine WI.out.mono ?_
      rintro r w1 ⟨rfl, rfl⟩
      obtain ⟨w0, hw0⟩ : ∃ w0, w0 = w.alloc (.cells #[.slice none 0 0, .int .i64 0] 112) := ⟨_, rfl⟩
      rw [← hw0] at HSZ HW1 M0 c0 ⊢
      have RA : Hid (Arr w0 w.heap.size 112 2 (fun i => if i = 0 then .slice none 0 0 else .int .i64 0)) := Lib.hid (by rw [hw0]; exact res_arr w)
      clear hw0 WI ONE c0
      go_wp2
      go_loopw [1, 7] (fun x i wr => ∃ (j : Nat) (F' : List Nat), j ≤ 2 ∧ i = .int .i64 j ∧ x = .int .i64 ((nn / 256 ^ j : Nat) : Int) ∧ Wtr wr 110 b (bs ++ leB nn j) F' ∧ Grow F F' w0 wr) (fun _ i _ => 2 - (intOf i).toNat)
      case atStart => exact ⟨0, F, Nat.zero_le _, rfl, by simp, by rw [leB_zero, List.append_nil]; exact HW1.out, Grow.refl _ _⟩
      case round =>
        obtain ⟨j, F', hj, rfl, rfl, hR, hG⟩ := hrel
        by_cases hlt : j < 2
        · have i2 : (j : Int) < 2 := by omega
          obtain ⟨v, hA, ho, hg⟩ := hR.ex
          have hlen : (bs ++ leB nn j).length ≤ 600000 := by simp [leB_length]; omega
          have HG := Lib.hid hG
          have HR := Lib.hid hR
          obtain ⟨nj, hnj⟩ : ∃ nj : Nat, nj = nn / 256 ^ j := ⟨_, rfl⟩
          have hnj1 : nj < 9223372036854775808 := by rw [hnj]; exact Nat.lt_of_le_of_lt (Nat.div_le_self _ _) hn9
          have hsuc : nn / 256 ^ (j + 1) = nj / 256 := by rw [hnj, Nat.pow_succ, Nat.div_div_eq_div_mul]
          have hbl : bs ++ leB nn (j + 1) = (bs ++ leB nn j) ++ [UInt8.ofNat (nj % 256)] := by rw [leB_succ, hnj, List.append_assoc]
          have HS := Lib.hid hsuc
          have HBL := Lib.hid hbl
          rw [← hnj]
          obtain ⟨bj, hbj⟩ : ∃ bj, bj = bs ++ leB nn j := ⟨_, rfl⟩
          have HBJ := Lib.hid hbj
          rw [← hbj] at ho hlen
          obtain ⟨w2, hw2⟩ : ∃ w2, w2 = wr.alloc (.cells #[.int .u8 ((nj : Int) % 256)] 5) := ⟨_, rfl⟩
          have m2 : Mod [] wr w2 := by rw [hw2]; exact (Mod.refl _ _).alloc _
          have cn : w2.cell? ⟨wr.heap.size, 0, none⟩ = some (.int .u8 ((nj : Int) % 256)) := by rw [hw2]; exact new_cell1 wr _ _ _ rfl
          have hA2 := hA.mod m2 (by simp)
          have ho2 := own_mod ho m2 (by simp)
          have c0 := hA.cell 0 (by omega)
          have hzz := m2.size
          have HA := Lib.hid hA
          have HA2 := Lib.hid hA2
          have HW2 := Lib.hid hw2
          have M2 := Lib.hid m2
          have HGG := Lib.hid hg
          clear hG hR hnj hsuc hbl hbj hw2 m2 hA hA2 ho hg
          go_wp2_with (
            at_builtin
            rw [← HW2.out]
            refine app1 0 80 5 (.int .u8 0) 1 1 Tryd.underlying80 u8_info rfl (by omega) (by omega) rfl _ _ rfl v _ _ rfl ho2 wr.heap.size [.int .u8 ((nj : Int) % 256)] rfl rfl (news1 cn) (by simp [Value.oneCell']) (by omega) (by omega) ?_
            intro ga cap w3 ho3 m3 hg3 hb3
            have hbn : b ∉ v.ownBlock.toList := fun hx => (HGG.out b (by simpa using hx)).2 rfl
            have hA3 := HA2.out.mod m3 hbn
            have c3 := hA3.cell 0 (by omega)
            have f3 := hA3.free 0
            have ST := Lib.hid ((HR.out.mod0 M2.out).stored HA2.out HGG.out m3 ho3 (bs' := bj ++ [UInt8.ofNat (nj % 256)]) (by simp) (by simp [u8_ofNat]) (fun g e => by
              simp only [Value.ownBlock, Option.map_some, Option.some.injEq] at e
              rcases hg3 with h1 | h1
              · left; rw [h1]; simp_all
              · right; omega))
            clear hA3 ho3 m3 ho2 cn hbn)
          go_roundw
          case rel =>
            obtain ⟨F2, hW2, hG2⟩ := ST.out
            exact ⟨j + 1, F2, by omega, by go_num, by rw [HS.out]; simp, by rw [HBL.out, ← HBJ.out]; exact hW2, HG.out.trans ((Grow.of_mod M2.out).trans hG2)⟩
          case measure => simp [intOf]; omega
        · have i2 : ¬ (j : Int) < 2 := by omega
          obtain rfl : j = 2 := by omega
          have hAR := RA.out.mod hG.mod (fun hx => by have := HW.out.lt _ hx; omega)
          have r0 := hAR.cell 0 (by omega)
          have r1 := hAR.cell 1 (by omega)
          have g0 := hAR.free 0
          have g1 := hAR.free 1
          simp only [if_true, if_false, Nat.reduceEqDiff] at r0 r1
          have FIN := Lib.hid (And.intro hR hG)
          clear hR hG hAR
          go_wp2
          (try simp only [Exit.inBlock, Exit.then])
          refine bodyPost_ret (v := .agg #[.slice none 0 0, .int .i64 0]) ?_ rfl ?_
          · rw [results_cell1 rfl]
            go_simp
          · rw [hf.out.1, hf.out.2]
            exact RWrPost.goodS HW.out.lt M0.out HSZ.out.symm FIN.out.1 FIN.out.2 _ _
    · have hm : (nn : Int) < 4294967296 := by simp at hnk; omega
      have t2 : decide ((4294967296 : Int) ≤ (nn : Int)) = false := by simp; omega
      clear hnk
      go_enter Tryd.func54, Tryd.ntmps54
      go_wp2_with fail
      refine WI.out.mono ?_
      rintro r w1 ⟨rfl, rfl⟩
      obtain ⟨w0, hw0⟩ : ∃ w0, w0 = w.alloc (.cells #[.slice none 0 0, .int .i64 0] 112) := ⟨_, rfl⟩
      rw [← hw0] at HSZ HW1 M0 c0 ⊢
      have RA : Hid (Arr w0 w.heap.size 112 2 (fun i => if i = 0 then .slice none 0 0 else .int .i64 0)) := Lib.hid (by rw [hw0]; exact res_arr w)
      clear hw0 WI ONE c0
      go_wp2
      go_loopw [1, 7] (fun x i wr => ∃ (j : Nat) (F' : List Nat), j ≤ 4 ∧ i = .int .i64 j ∧ x = .int .i64 ((nn / 256 ^ j : Nat) : Int) ∧ Wtr wr 110 b (bs ++ leB nn j) F' ∧ Grow F F' w0 wr) (fun _ i _ => 4 - (intOf i).toNat)
      case atStart => exact ⟨0, F, Nat.zero_le _, rfl, by simp, by rw [leB_zero, List.append_nil]; exact HW1.out, Grow.refl _ _⟩
      case round =>
        obtain ⟨j, F', hj, rfl, rfl, hR, hG⟩ := hrel
        by_cases hlt : j < 4
        · have i2 : (j : Int) < 4 := by omega
          obtain ⟨v, hA, ho, hg⟩ := hR.ex
          have hlen : (bs ++ leB nn j).length ≤ 600000 := by simp [leB_length]; omega
          have HG := Lib.hid hG
          have HR := Lib.hid hR
          obtain ⟨nj, hnj⟩ : ∃ nj : Nat, nj = nn / 256 ^ j := ⟨_, rfl⟩
          have hnj1 : nj < 9223372036854775808 := by rw [hnj]; exact Nat.lt_of_le_of_lt (Nat.div_le_self _ _) hn9
          have hsuc : nn / 256 ^ (j + 1) = nj / 256 := by rw [hnj, Nat.pow_succ, Nat.div_div_eq_div_mul]
          have hbl : bs ++ leB nn (j + 1) = (bs ++ leB nn j) ++ [UInt8.ofNat (nj % 256)] := by rw [leB_succ, hnj, List.append_assoc]
          have HS := Lib.hid hsuc
          have HBL := Lib.hid hbl
          rw [← hnj]
          obtain ⟨bj, hbj⟩ : ∃ bj, bj = bs ++ leB nn j := ⟨_, rfl⟩
          have HBJ := Lib.hid hbj
          rw [← hbj] at ho hlen
          obtain ⟨w2, hw2⟩ : ∃ w2, w2 = wr.alloc (.cells #[.int .u8 ((nj : Int) % 256)] 5) := ⟨_, rfl⟩
          have m2 : Mod [] wr w2 := by rw [hw2]; exact (Mod.refl _ _).alloc _
          have cn : w2.cell? ⟨wr.heap.size, 0, none⟩ = some (.int .u8 ((nj : Int) % 256)) := by rw [hw2]; exact new_cell1 wr _ _ _ rfl
          have hA2 := hA.mod m2 (by simp)
          have ho2 := own_mod ho m2 (by simp)
          have c0 := hA.cell 0 (by omega)
          have hzz := m2.size
          have HA := Lib.hid hA
          have HA2 := Lib.hid hA2
          have HW2 := Lib.hid hw2
          have M2 := Lib.hid m2
          have HGG := Lib.hid hg
          clear hG hR hnj hsuc hbl hbj hw2 m2 hA hA2 ho hg
          go_wp2_with (
            at_builtin
            rw [← HW2.out]
            refine app1 0 80 5 (.int .u8 0) 1 1 Tryd.underlying80 u8_info rfl (by omega) (by omega) rfl _ _ rfl v _ _ rfl ho2 wr.heap.size [.int .u8 ((nj : Int) % 256)] rfl rfl (news1 cn) (by simp [Value.oneCell']) (by omega) (by omega) ?_
            intro ga cap w3 ho3 m3 hg3 hb3
            have hbn : b ∉ v.ownBlock.toList := fun hx => (HGG.out b (by simpa using hx)).2 rfl
            have hA3 := HA2.out.mod m3 hbn
            have c3 := hA3.cell 0 (by omega)
            have f3 := hA3.free 0
            have ST := Lib.hid ((HR.out.mod0 M2.out).stored HA2.out HGG.out m3 ho3 (bs' := bj ++ [UInt8.ofNat (nj % 256)]) (by simp) (by simp [u8_ofNat]) (fun g e => by
              simp only [Value.ownBlock, Option.map_some, Option.some.injEq] at e
              rcases hg3 with h1 | h1
              · left; rw [h1]; simp_all
              · right; omega))
            clear hA3 ho3 m3 ho2 cn hbn)
          go_roundw
          case rel =>
            obtain ⟨F2, hW2, hG2⟩ := ST.out
            exact ⟨j + 1, F2, by omega, by go_num, by rw [HS.out]; simp, by rw [HBL.out, ← HBJ.out]; exact hW2, HG.out.trans ((Grow.of_mod M2.out).trans hG2)⟩
          case measure => simp [intOf]; omega
        · have i2 : ¬ (j : Int) < 4 := by omega
          obtain rfl : j = 4 := by omega
          have hAR := RA.out.mod hG.mod (fun hx => by have := HW.out.lt _ hx; omega)
          have r0 := hAR.cell 0 (by omega)
          have r1 := hAR.cell 1 (by omega)
          have g0 := hAR.free 0
          have g1 := hAR.free 1
          simp only [if_true, if_false, Nat.reduceEqDiff] at r0 r1
          have FIN := Lib.hid (And.intro hR hG)
          clear hR hG hAR
          go_wp2
          (try simp only [Exit.inBlock, Exit.then])
          refine bodyPost_ret (v := .agg #[.slice none 0 0, .int .i64 0]) ?_ rfl ?_
          · rw [results_cell1 rfl]
            go_simp
          · rw [hf.out.1, hf.out.2]
            exact RWrPost.goodS HW.out.lt M0.out HSZ.out.symm FIN.out.1 FIN.out.2 _ _
    · have t2 : True := trivial
      clear hnk
      go_enter Tryd.func54, Tryd.ntmps54
      go_wp2_with fail
      refine WI.out.mono ?_
      rintro r w1 ⟨rfl, rfl⟩
      obtain ⟨w0, hw0⟩ : ∃ w0, w0 = w.alloc (.cells #[.slice none 0 0, .int .i64 0] 112) := ⟨_, rfl⟩
      rw [← hw0] at HSZ HW1 M0 c0 ⊢
      have RA : Hid (Arr w0 w.heap.size 112 2 (fun i => if i = 0 then .slice none 0 0 else .int .i64 0)) := Lib.hid (by rw [hw0]; exact res_arr w)
      clear hw0 WI ONE c0
      go_wp2
      go_loopw [1, 7] (fun x i wr => ∃ (j : Nat) (F' : List Nat), j ≤ 8 ∧ i = .int .i64 j ∧ x = .int .i64 ((nn / 256 ^ j : Nat) : Int) ∧ Wtr wr 110 b (bs ++ leB nn j) F' ∧ Grow F F' w0 wr) (fun _ i _ => 8 - (intOf i).toNat)
      case atStart => exact ⟨0, F, Nat.zero_le _, rfl, by simp, by rw [leB_zero, List.append_nil]; exact HW1.out, Grow.refl _ _⟩
      case round =>
        obtain ⟨j, F', hj, rfl, rfl, hR, hG⟩ := hrel
        by_cases hlt : j < 8
        · have i2 : (j : Int) < 8 := by omega
          obtain ⟨v, hA, ho, hg⟩ := hR.ex
          have hlen : (bs ++ leB nn j).length ≤ 600000 := by simp [leB_length]; omega
          have HG := Lib.hid hG
          have HR := Lib.hid hR
          obtain ⟨nj, hnj⟩ : ∃ nj : Nat, nj = nn / 256 ^ j := ⟨_, rfl⟩
          have hnj1 : nj < 9223372036854775808 := by rw [hnj]; exact Nat.lt_of_le_of_lt (Nat.div_le_self _ _) hn9
          have hsuc : nn / 256 ^ (j + 1) = nj / 256 := by rw [hnj, Nat.pow_succ, Nat.div_div_eq_div_mul]
          have hbl : bs ++ leB nn (j + 1) = (bs ++ leB nn j) ++ [UInt8.ofNat (nj % 256)] := by rw [leB_succ, hnj, List.append_assoc]
          have HS := Lib.hid hsuc
          have HBL := Lib.hid hbl
          rw [← hnj]
          obtain ⟨bj, hbj⟩ : ∃ bj, bj = bs ++ leB nn j := ⟨_, rfl⟩
          have HBJ := Lib.hid hbj
          rw [← hbj] at ho hlen
          obtain ⟨w2, hw2⟩ : ∃ w2, w2 = wr.alloc (.cells #[.int .u8 ((nj : Int) % 256)] 5) := ⟨_, rfl⟩
          have m2 : Mod [] wr w2 := by rw [hw2]; exact (Mod.refl _ _).alloc _
          have cn : w2.cell? ⟨wr.heap.size, 0, none⟩ = some (.int .u8 ((nj : Int) % 256)) := by rw [hw2]; exact new_cell1 wr _ _ _ rfl
          have hA2 := hA.mod m2 (by simp)
          have ho2 := own_mod ho m2 (by simp)
          have c0 := hA.cell 0 (by omega)
          have hzz := m2.size
          have HA := Lib.hid hA
          have HA2 := Lib.hid hA2
          have HW2 := Lib.hid hw2
          have M2 := Lib.hid m2
          have HGG := Lib.hid hg
          clear hG hR hnj hsuc hbl hbj hw2 m2 hA hA2 ho hg
          go_wp2_with (
            at_builtin
            rw [← HW2.out]
            refine app1 0 80 5 (.int .u8 0) 1 1 Tryd.underlying80 u8_info rfl (by omega) (by omega) rfl _ _ rfl v _ _ rfl ho2 wr.heap.size [.int .u8 ((nj : Int) % 256)] rfl rfl (news1 cn) (by simp [Value.oneCell']) (by omega) (by omega) ?_
            intro ga cap w3 ho3 m3 hg3 hb3
            have hbn : b ∉ v.ownBlock.toList := fun hx => (HGG.out b (by simpa using hx)).2 rfl
            have hA3 := HA2.out.mod m3 hbn
            have c3 := hA3.cell 0 (by omega)
            have f3 := hA3.free 0
            have ST := Lib.hid ((HR.out.mod0 M2.out).stored HA2.out HGG.out m3 ho3 (bs' := bj ++ [UInt8.ofNat (nj % 256)]) (by simp) (by simp [u8_ofNat]) (fun g e => by
              simp only [Value.ownBlock, Option.map_some, Option.some.injEq] at e
              rcases hg3 with h1 | h1
              · left; rw [h1]; simp_all
              · right; omega))
            clear hA3 ho3 m3 ho2 cn hbn)
          go_roundw
          case rel =>
            obtain ⟨F2, hW2, hG2⟩ := ST.out
            exact ⟨j + 1, F2, by omega, by go_num, by rw [HS.out]; simp, by rw [HBL.out, ← HBJ.out]; exact hW2, HG.out.trans ((Grow.of_mod M2.out).trans hG2)⟩
          case measure => simp [intOf]; omega
        · have i2 : ¬ (j : Int) < 8 := by omega
          obtain rfl : j = 8 := by omega
          have hAR := RA.out.mod hG.mod (fun hx => by have := HW.out.lt _ hx; omega)
          have r0 := hAR.cell 0 (by omega)
          have r1 := hAR.cell 1 (by omega)
          have g0 := hAR.free 0
          have g1 := hAR.free 1
          simp only [if_true, if_false, Nat.reduceEqDiff] at r0 r1
          have FIN := Lib.hid (And.intro hR hG)
          clear hR hG hAR
          go_wp2
          (try simp only [Exit.inBlock, Exit.then])
          refine bodyPost_ret (v := .agg #[.slice none 0 0, .int .i64 0]) ?_ rfl ?_
          · rw [results_cell1 rfl]
            go_simp
          · rw [hf.out.1, hf.out.2]
            exact RWrPost.goodS HW.out.lt M0.out HSZ.out.symm FIN.out.1 FIN.out.2 _ _
end Go.Proofs.YtphcoenooinmfaaDoor
