/- Which vote is to be chosen: package ballot's Choose, and the document's. No condition, but that votes' ballots are 1 at the least for the document's. (Written by wip/tools/genBal3.py.) -/
import Derived.Test.YtphcoenooinmfaaDoorBal2
namespace Go.Proofs.YtphcoenooinmfaaDoor
open Go.RowKit
set_option linter.unusedVariables false
set_option linter.unusedSimpArgs false
attribute [local go_sem ↓] Go.wp_at_zero Go.wp_at_succ

def updV (s : Int) (b x : VoteT) : VoteT := if x.s = s ∧ b.b < x.b then x else b
def chIn (s : Int) (b : VoteT) (L : List VoteT) : VoteT := L.foldl (updV s) b
def chAll (s : Int) (LL : List (List VoteT)) : VoteT := LL.foldl (chIn s) VoteT.zero
theorem chIn_succ (s : Int) (b : VoteT) (L : List VoteT) (k : Nat) (hk : k < L.length) : chIn s b (L.take (k + 1)) = updV s (chIn s b (L.take k)) (L.getD k VoteT.zero) := by
  rw [← take_snoc L k hk]
  simp [chIn]
theorem chAll_succ (s : Int) (LL : List (List VoteT)) (i : Nat) (hi : i < LL.length) : chAll s (LL.take (i + 1)) = chIn s (chAll s (LL.take i)) (LL.getD i []) := by
  rw [List.take_succ_eq_append_getElem hi, List.getD_eq_getElem?_getD, List.getElem?_eq_getElem hi]
  unfold chAll
  rw [List.foldl_append]
  rfl
theorem updV_le (s : Int) (b x : VoteT) : b.b ≤ (updV s b x).b := by
  unfold updV
  split <;> omega
theorem updV_ge (s : Int) (b x : VoteT) (h : x.s = s) : x.b ≤ (updV s b x).b := by
  unfold updV
  split
  · omega
  · rename_i h9
    have : ¬ b.b < x.b := fun h' => h9 ⟨h, h'⟩
    omega
theorem chIn_le (s : Int) : ∀ (L : List VoteT) (b : VoteT), b.b ≤ (chIn s b L).b := by
  intro L
  induction L with
  | nil => intro b; exact Int.le_refl _
  | cons x L ih =>
    intro b
    have h1 := updV_le s b x
    have h2 := ih (updV s b x)
    show b.b ≤ (chIn s (updV s b x) L).b
    omega
theorem chIn_ge (s : Int) : ∀ (L : List VoteT) (b : VoteT) (k : Nat), k < L.length → (L.getD k VoteT.zero).s = s → (L.getD k VoteT.zero).b ≤ (chIn s b L).b := by
  intro L
  induction L with
  | nil => intro b k hk; simp at hk
  | cons x L ih =>
    intro b k hk hs
    cases k with
    | zero =>
      have h1 := updV_ge s b x (by simpa using hs)
      have h2 := chIn_le s L (updV s b x)
      show x.b ≤ (chIn s (updV s b x) L).b
      omega
    | succ k =>
      have := ih (updV s b x) k (by simpa using hk) (by simpa using hs)
      simpa [chIn] using this
theorem chFold_le (s : Int) : ∀ (LL : List (List VoteT)) (b : VoteT), b.b ≤ (LL.foldl (chIn s) b).b := by
  intro LL
  induction LL with
  | nil => intro b; exact Int.le_refl _
  | cons L LL ih =>
    intro b
    have h1 := chIn_le s L b
    have h2 := ih (chIn s b L)
    show b.b ≤ (LL.foldl (chIn s) (chIn s b L)).b
    omega
theorem chFold_ge (s : Int) : ∀ (LL : List (List VoteT)) (b : VoteT) (i k : Nat), i < LL.length → k < (LL.getD i []).length → ((LL.getD i []).getD k VoteT.zero).s = s → ((LL.getD i []).getD k VoteT.zero).b ≤ (LL.foldl (chIn s) b).b := by
  intro LL
  induction LL with
  | nil => intro b i k hi; simp at hi
  | cons L LL ih =>
    intro b i k hi hk hs
    cases i with
    | zero =>
      have h1 := chIn_ge s L b k (by simpa using hk) (by simpa using hs)
      have h2 := chFold_le s LL (chIn s b L)
      show (L.getD k VoteT.zero).b ≤ (LL.foldl (chIn s) (chIn s b L)).b
      omega
    | succ i => exact ih (chIn s b L) i k (by simpa using hi) (by simpa using hk) (by simpa using hs)
/-- Sets of votes, read. -/
def Sets (w : World) (v : Value) (LL : List (List VoteT)) : Prop := ∃ iv : Nat → Value, SlA w v LL.length 1 (fun i _ => iv i) ∧ ∀ i, i < LL.length → Vs w (iv i) (LL.getD i [])
def VZ : Array Value := #[.int .i64 0, .int .i64 0, .string ⟨#[]⟩]
theorem vote_new (w : World) (e : TypeId) (x : VoteT) : Arr (w.alloc (.cells #[.int .i64 x.s, .int .i64 x.b, .string x.v] e)) w.heap.size e 3 x.cF :=
  Arr.new' w _ _ 3 _ rfl (fun i hi => by
    match i, hi with
    | 0, _ | 1, _ | 2, _ => rfl)
theorem vote_set {w : World} {b : Nat} {e : TypeId} {f : Nat → Value} (h : Arr w b e 3 f) (x : VoteT) : Arr (((w.setCell ⟨b, 0, none⟩ (.int .i64 x.s)).setCell ⟨b, 1, none⟩ (.int .i64 x.b)).setCell ⟨b, 2, none⟩ (.string x.v)) b e 3 x.cF :=
  (((h.set 0 _).set 1 _).set 2 _).congr fun i hi => by
    match i, hi with
    | 0, _ | 1, _ | 2, _ => rfl
theorem vote_setM {w w0 : World} {b : Nat} (x : VoteT) (m : Mod [] w0 w) (hb : w0.heap.size ≤ b) : Mod [] w0 (((w.setCell ⟨b, 0, none⟩ (.int .i64 x.s)).setCell ⟨b, 1, none⟩ (.int .i64 x.b)).setCell ⟨b, 2, none⟩ (.string x.v)) :=
  ((m.setCell (.inr hb) _).setCell (.inr hb) _).setCell (.inr hb) _
theorem results_cell_tmp {fn : Func} {t p : Tmp} {ty : TypeId} (h : fn.results = #[.cell p ty, .tmp t]) (tmps : Array Value) (P : Program) (w : World) :
    (results fn tmps).run P w = ((asAddr (tmps.getD p undef)).run P w).andThen fun a w₁ => ((loadVar ty a).run P w₁).andThen fun v w₂ => .ok (.tuple #[v, tmps.getD t undef]) w₂ := by
  simp only [results, h]
  simp [Sem.run_bind, Result.andThen]
set_option maxRecDepth 100000 in
set_option maxHeartbeats 4000000 in
theorem choose_calls (w : World) (v : Value) (LL : List (List VoteT)) (s : Int) (hS : Sets w v LL) (hl : LL.length ≤ 100000) (hl2 : ∀ i, i < LL.length → (LL.getD i []).length ≤ 100000) :
    Calls Tryd.prog 19 #[v, .int .i64 s] w fun r w' => r = .returned (.tuple #[.agg #[.int .i64 (chAll s LL).s, .int .i64 (chAll s LL).b, .string (chAll s LL).v], .bool (decide (0 < (chAll s LL).b))]) ∧ Mod [] w w' := by
  obtain ⟨iv, hv, hi9⟩ := hS
  obtain ⟨A, cap, rfl, hc, hm, hx⟩ := hv.ex
  have hcap : cap ≤ 9223372036854775807 := by unfold maxLen at hm; omega
  have HX := Lib.hid hx
  have HI := Lib.hid hi9
  have HL2 := Lib.hid hl2

  obtain ⟨w1, hw1⟩ : ∃ w1, w1 = w.alloc (.cells VZ 33) := ⟨_, rfl⟩
  obtain ⟨w2, hw2⟩ : ∃ w2, w2 = w1.alloc (.cells VZ 33) := ⟨_, rfl⟩
  have m1 : Mod [] w w1 := by rw [hw1]; exact (Mod.refl _ _).alloc _
  have m2 : Mod [] w1 w2 := by rw [hw2]; exact (Mod.refl _ _).alloc _
  have hz1 : w1.heap.size = w.heap.size + 1 := by rw [hw1]; simp
  have A1 : Arr w1 w.heap.size 33 3 VoteT.zero.cF := by rw [hw1]; exact vote_new w _ VoteT.zero
  have B2 : Arr w2 (w.heap.size + 1) 33 3 VoteT.zero.cF := by rw [← hz1, hw2]; exact vote_new w1 _ VoteT.zero
  have HAB := Lib.hid (And.intro (A1.mod m2 (by simp)) (And.intro B2 (m1.trans m2)))
  rw [hw1] at hw2
  unfold VZ at hw2
  have HW2 := Lib.hid hw2
  clear hx hv hi9 hm hw1 m1 m2 hz1 A1 B2 hw2 hl2
  go_enter Tryd.func19, Tryd.ntmps19
  go_wp2
  rw [← HW2.out]
  obtain ⟨b4, hb4⟩ : ∃ b4, b4 = w.heap.size := ⟨_, rfl⟩
  rw [← hb4] at HAB ⊢
  have HB4 := Lib.hid hb4
  clear hb4
  have hne : b4 ≠ b4 + 1 := by omega
  go_loopw [13] (fun i wr => ∃ i' : Nat, i' ≤ LL.length ∧ i = .int .i64 i' ∧ Arr wr b4 33 3 VoteT.zero.cF ∧ Arr wr (b4 + 1) 33 3 (chAll s (LL.take i')).cF ∧ Mod [] w wr) (fun i _ => LL.length - (intOf i).toNat)
  case atStart => exact ⟨0, Nat.zero_le _, rfl, HAB.out.1, HAB.out.2.1, HAB.out.2.2⟩
  case round =>
    obtain ⟨i', hi, rfl, hA, hB, hM⟩ := hrel
    clear HAB
    by_cases hlt : i' < LL.length
    · have i0 : (0 : Int) ≤ (i' : Int) := by omega
      have i1 : (i' : Int) < (LL.length : Int) := by omega
      obtain ⟨bb, off, rfl, hcell⟩ := HX.out (by omega)
      have x0 := hcell i' 0 hlt (by omega)
      simp only [Nat.mul_one, Nat.add_zero] at x0
      have hVs := HI.out i' hlt
      obtain ⟨A2, cap2, he2, hc2, hm2, hx2⟩ := SlA.ex hVs
      have hcap2 : cap2 ≤ 9223372036854775807 := by unfold maxLen at hm2; omega
      have hn2 := HL2.out i' hlt
      rw [he2] at x0
      have HX0 := Lib.hid x0
      have x9 := hM.cell' x0 (by simp)
      have HX2 := Lib.hid hx2
      have HNX := Lib.hid (chAll_succ s LL i' hlt)
      have HR := Lib.hid (And.intro hA (And.intro hB hM))
      obtain ⟨B0, hB0⟩ : ∃ B0, B0 = chAll s (LL.take i') := ⟨_, rfl⟩
      obtain ⟨L2, hL2⟩ : ∃ L2, L2 = LL.getD i' [] := ⟨_, rfl⟩
      rw [← hB0] at HR HNX
      rw [← hL2] at HNX
      rw [← hL2] at x9 HX0 HX2 hc2 hn2

      have HLL := Lib.hid hL2
      have HB0 := Lib.hid hB0
      obtain ⟨wo, hwo⟩ : ∃ wo, wo = wr := ⟨_, rfl⟩
      rw [← hwo] at HR x9 ⊢
      clear hwo hA hB hM hcell hVs he2 hm2 hx2 x0 hB0 hL2
      go_wp2
      clear x9
      go_loopw [19] (fun i wr => ∃ k' : Nat, k' ≤ L2.length ∧ i = .int .i64 k' ∧ Arr wr b4 33 3 VoteT.zero.cF ∧ Arr wr (b4 + 1) 33 3 (chIn s B0 (L2.take k')).cF ∧ Mod [] w wr) (fun i _ => L2.length - (intOf i).toNat)
      case atStart => exact ⟨0, Nat.zero_le _, rfl, HR.out.1, HR.out.2.1, HR.out.2.2⟩
      case round =>
        obtain ⟨k, hk, rfl, hA, hB, hM⟩ := hrel
        clear HR
        by_cases hkl : k < L2.length
        · have j0 : (0 : Int) ≤ (k : Int) := by omega
          have j1 : (k : Int) < (L2.length : Int) := by omega
          obtain ⟨b2, off2, rfl, hcell2⟩ := HX2.out (by omega)
          have y0 := hM.cell' (hcell2 k 0 hkl (by omega)) (by simp)
          have y1 := hM.cell' (hcell2 k 1 hkl (by omega)) (by simp)
          have y2 := hM.cell' (hcell2 k 2 hkl (by omega)) (by simp)
          unfold vF VoteT.cF at y0 y1 y2
          simp only [if_true, if_false, Nat.reduceEqDiff, Nat.add_zero] at y0 y1 y2
          have HS2 := Lib.hid (chIn_succ s B0 L2 k hkl)

          obtain ⟨x, hx⟩ : ∃ x, x = L2.getD k VoteT.zero := ⟨_, rfl⟩
          obtain ⟨B, hBe⟩ : ∃ B, B = chIn s B0 (L2.take k) := ⟨_, rfl⟩
          rw [← hx] at y0 y1 y2 HS2
          rw [← hBe] at hB HS2
          obtain ⟨wn, hwn⟩ : ∃ wn, wn = wr.alloc (.cells #[.int .i64 x.s, .int .i64 x.b, .string x.v] 33) := ⟨_, rfl⟩
          have mn : Mod [] wr wn := by rw [hwn]; exact (Mod.refl _ _).alloc _
          have HRn := Lib.hid (And.intro (hA.mod mn (by simp)) (And.intro (hB.mod mn (by simp)) (hM.trans mn)))
          have q1 := (hB.mod mn (by simp)).cell 1 (by omega)
          have q0 := (hB.mod mn (by simp)).cell 0 (by omega)
          have q2 := (hB.mod mn (by simp)).cell 2 (by omega)
          have f0 := (hB.mod mn (by simp)).free 0
          have f1 := (hB.mod mn (by simp)).free 1
          have f2 := (hB.mod mn (by simp)).free 2
          unfold VoteT.cF at q0 q1 q2
          simp only [if_true, if_false, Nat.reduceEqDiff] at q0 q1 q2
          have HR0 := Lib.hid (And.intro hA (And.intro hB hM))
          have e0 := hB.free 0
          have e1 := hB.free 1
          have e2 := hB.free 2
          have r0 := hB.cell 0 (by omega)
          have r1 := hB.cell 1 (by omega)
          have r2 := hB.cell 2 (by omega)
          unfold VoteT.cF at r0 r1 r2
          simp only [if_true, if_false, Nat.reduceEqDiff] at r0 r1 r2
          have hbl : b4 + 1 < wr.heap.size := hB.lt
          have hbn : b4 + 1 ≠ wr.heap.size := by omega
          have hbn' : wr.heap.size ≠ b4 + 1 := by omega
          have HWN := Lib.hid hwn
          rw [hwn] at q0 q1 q2 f0 f1 f2
          have hle4 : w.heap.size ≤ b4 + 1 := by rw [HB4.out]; omega
          clear hA hB hM mn hcell2 hwn hx hBe
          by_cases hs : x.s = s
          · by_cases hb : B.b < x.b
            · have eu : updV s B x = x := by unfold updV; rw [if_pos ⟨hs, hb⟩]
              rw [eu] at HS2
              have t1 : (x.s == s) = true := by simpa using hs
              have HE := Lib.hid ((vote_set (HR0.out.2.1) x).mod ((Mod.refl [] _).alloc (.cells #[.int .i64 x.s, .int .i64 x.b, .string x.v] 33)) (by simp))
              have HM := Lib.hid ((vote_setM x HR0.out.2.2 hle4).alloc (.cells #[.int .i64 x.s, .int .i64 x.b, .string x.v] 33))
              have HA := Lib.hid ((HR0.out.1.mod (S := [b4 + 1]) (w' := ((wr.setCell ⟨b4 + 1, 0, none⟩ (.int .i64 x.s)).setCell ⟨b4 + 1, 1, none⟩ (.int .i64 x.b)).setCell ⟨b4 + 1, 2, none⟩ (.string x.v)) ((((Mod.refl _ _).setCell (.inl (by simp)) _).setCell (.inl (by simp)) _).setCell (.inl (by simp)) _) (by simp)).mod ((Mod.refl [] _).alloc (.cells #[.int .i64 x.s, .int .i64 x.b, .string x.v] 33)) (by simp))
              obtain ⟨xs, xb, xv⟩ := x
              simp only at hs hb t1 y0 y1 y2 HS2 HE HM HA HWN
              subst hs
              go_wp2
              go_roundw
              case rel => exact ⟨k + 1, by omega, by go_num, HA.out, by rw [HS2.out]; exact HE.out, HM.out⟩
              case measure => simp [intOf]; omega
            · have eu : updV s B x = B := by unfold updV; rw [if_neg (fun h => hb h.2)]
              rw [eu] at HS2
              have t1 : (x.s == s) = true := by simpa using hs
              rw [HWN.out] at HRn
              obtain ⟨xs, xb, xv⟩ := x
              simp only at hs hb t1 y0 y1 y2 HS2 HRn HWN
              subst hs
              go_wp2
              go_roundw
              case rel => exact ⟨k + 1, by omega, by go_num, HRn.out.1, by rw [HS2.out]; exact HRn.out.2.1, HRn.out.2.2⟩
              case measure => simp [intOf]; omega
          · have eu : updV s B x = B := by unfold updV; rw [if_neg (fun h => hs h.1)]
            rw [eu] at HS2
            have t1 : (x.s == s) = false := by simpa using hs
            rw [HWN.out] at HRn
            obtain ⟨xs, xb, xv⟩ := x
            simp only at hs t1 y0 y1 y2 HS2 HRn HWN
            go_wp2
            go_roundw
            case rel => exact ⟨k + 1, by omega, by go_num, HRn.out.1, by rw [HS2.out]; exact HRn.out.2.1, HRn.out.2.2⟩
            case measure => simp [intOf]; omega
        · have j1 : ¬ (k : Int) < (L2.length : Int) := by omega
          obtain rfl : k = L2.length := by omega
          have HRe := Lib.hid (And.intro hA (And.intro hB hM))
          rw [List.take_length, ← HNX.out] at HRe
          clear hA hB hM
          go_wp2
          go_roundw
          case rel => exact ⟨i' + 1, by omega, by go_num, HRe.out.1, HRe.out.2.1, HRe.out.2.2⟩
          case measure => simp [intOf]; omega
    · have i1 : ¬ (i' : Int) < (LL.length : Int) := by omega
      obtain rfl : i' = LL.length := by omega
      rw [List.take_length] at hB
      obtain ⟨R, hR⟩ : ∃ R, R = chAll s LL := ⟨_, rfl⟩
      rw [← hR] at hB
      have HR9 := Lib.hid hR
      have q0 := hB.cell 0 (by omega)
      have q1 := hB.cell 1 (by omega)
      have q2 := hB.cell 2 (by omega)
      have p0 := hA.cell 0 (by omega)
      have p1 := hA.cell 1 (by omega)
      have p2 := hA.cell 2 (by omega)
      have g0 := hA.free 0
      have g1 := hA.free 1
      have g2 := hA.free 2
      have HF := Lib.hid (show ∀ w9, Mod [b4] wr w9 → Mod [] w w9 from fun w9 m9 => hM.fresh m9 (fun x hx => .inr (by simp at hx; rw [hx, HB4.out]; exact Nat.le_refl _)))
      have hne' : b4 + 1 ≠ b4 := by omega
      unfold VoteT.cF VoteT.zero at p0 p1 p2
      unfold VoteT.cF at q0 q1 q2
      simp only [if_true, if_false, Nat.reduceEqDiff] at q0 q1 q2 p0 p1 p2
      obtain ⟨xs, xb, xv⟩ := R
      simp only at q0 q1 q2
      clear hA hB hM hR
      go_wp2
      (try go_region)
      (try go_wp2)
      (try simp only [Exit.inBlock, Exit.then])
      refine bodyPost_ret (v := .tuple #[.agg #[.int .i64 xs, .int .i64 xb, .string xv], .bool (decide (0 < xb))]) ?_ rfl ?_
      · rw [results_cell_tmp rfl]
        go_simp
      · refine ⟨by rw [← HR9.out], HF.out _ ?_⟩
        repeat (first | (with_reducible exact Mod.refl _ _) | (with_reducible refine Mod.drew ?_) | (with_reducible refine Mod.setCell ?_ (.inl (by simp)) _))
set_option maxRecDepth 100000 in
set_option maxHeartbeats 4000000 in
theorem rchoose_calls (w : World) (v : Value) (LL : List (List VoteT)) (s : Int) (hS : Sets w v LL) (hl : LL.length ≤ 100000) (hl2 : ∀ i, i < LL.length → (LL.getD i []).length ≤ 100000) (hG : ∀ i k, i < LL.length → k < (LL.getD i []).length → 1 ≤ ((LL.getD i []).getD k VoteT.zero).b) :
    Calls Tryd.prog 20 #[v, .int .i64 s] w fun r w' => r = .returned (.tuple #[.agg #[.int .i64 (chAll s LL).s, .int .i64 (chAll s LL).b, .string (chAll s LL).v], .bool (decide (0 < (chAll s LL).b))]) ∧ Mod [] w w' := by
  obtain ⟨iv, hv, hi9⟩ := hS
  obtain ⟨A, cap, rfl, hc, hm, hx⟩ := hv.ex
  have hcap : cap ≤ 9223372036854775807 := by unfold maxLen at hm; omega
  have HX := Lib.hid hx
  have HI := Lib.hid hi9
  have HL2 := Lib.hid hl2
  have HG := Lib.hid hG
  obtain ⟨w1, hw1⟩ : ∃ w1, w1 = w.alloc (.cells VZ 38) := ⟨_, rfl⟩
  obtain ⟨w2, hw2⟩ : ∃ w2, w2 = w1.alloc (.cells VZ 38) := ⟨_, rfl⟩
  have m1 : Mod [] w w1 := by rw [hw1]; exact (Mod.refl _ _).alloc _
  have m2 : Mod [] w1 w2 := by rw [hw2]; exact (Mod.refl _ _).alloc _
  have hz1 : w1.heap.size = w.heap.size + 1 := by rw [hw1]; simp
  have A1 : Arr w1 w.heap.size 38 3 VoteT.zero.cF := by rw [hw1]; exact vote_new w _ VoteT.zero
  have B2 : Arr w2 (w.heap.size + 1) 38 3 VoteT.zero.cF := by rw [← hz1, hw2]; exact vote_new w1 _ VoteT.zero
  have HAB := Lib.hid (And.intro (A1.mod m2 (by simp)) (And.intro B2 (m1.trans m2)))
  rw [hw1] at hw2
  unfold VZ at hw2
  have HW2 := Lib.hid hw2
  clear hx hv hi9 hm hw1 m1 m2 hz1 A1 B2 hw2 hl2 hG
  go_enter Tryd.func20, Tryd.ntmps20
  go_wp2
  rw [← HW2.out]
  obtain ⟨b4, hb4⟩ : ∃ b4, b4 = w.heap.size := ⟨_, rfl⟩
  rw [← hb4] at HAB ⊢
  have HB4 := Lib.hid hb4
  clear hb4
  have hne : b4 ≠ b4 + 1 := by omega
  go_loopw [7, 8] (fun is i wr => ∃ i' : Nat, i' ≤ LL.length ∧ i = .int .i64 i' ∧ is = .bool (decide (0 < (chAll s (LL.take i')).b)) ∧ 0 ≤ (chAll s (LL.take i')).b ∧ Arr wr b4 38 3 VoteT.zero.cF ∧ Arr wr (b4 + 1) 38 3 (chAll s (LL.take i')).cF ∧ Mod [] w wr) (fun _ i _ => LL.length - (intOf i).toNat)
  case atStart => exact ⟨0, Nat.zero_le _, rfl, rfl, (by show (0 : Int) ≤ VoteT.zero.b; decide), HAB.out.1, HAB.out.2.1, HAB.out.2.2⟩
  case round =>
    obtain ⟨i', hi, rfl, rfl, hp, hA, hB, hM⟩ := hrel
    clear HAB
    by_cases hlt : i' < LL.length
    · have i0 : (0 : Int) ≤ (i' : Int) := by omega
      have i1 : (i' : Int) < (LL.length : Int) := by omega
      obtain ⟨bb, off, rfl, hcell⟩ := HX.out (by omega)
      have x0 := hcell i' 0 hlt (by omega)
      simp only [Nat.mul_one, Nat.add_zero] at x0
      have hVs := HI.out i' hlt
      obtain ⟨A2, cap2, he2, hc2, hm2, hx2⟩ := SlA.ex hVs
      have hcap2 : cap2 ≤ 9223372036854775807 := by unfold maxLen at hm2; omega
      have hn2 := HL2.out i' hlt
      rw [he2] at x0
      have HX0 := Lib.hid x0
      have x9 := hM.cell' x0 (by simp)
      have HX2 := Lib.hid hx2
      have HNX := Lib.hid (chAll_succ s LL i' hlt)
      have HR := Lib.hid (And.intro hA (And.intro hB hM))
      obtain ⟨B0, hB0⟩ : ∃ B0, B0 = chAll s (LL.take i') := ⟨_, rfl⟩
      obtain ⟨L2, hL2⟩ : ∃ L2, L2 = LL.getD i' [] := ⟨_, rfl⟩
      rw [← hB0] at HR HNX hp
      rw [← hL2] at HNX
      rw [← hL2] at x9 HX0 HX2 hc2 hn2

      have HLL := Lib.hid hL2
      have HB0 := Lib.hid hB0
      obtain ⟨wo, hwo⟩ : ∃ wo, wo = wr := ⟨_, rfl⟩
      rw [← hB0]
      rw [← hwo] at HR x9 ⊢
      clear hwo hA hB hM hcell hVs he2 hm2 hx2 x0 hB0 hL2
      go_wp2
      clear x9
      go_loopw [7, 9] (fun is i wr => ∃ k' : Nat, k' ≤ L2.length ∧ i = .int .i64 k' ∧ is = .bool (decide (0 < (chIn s B0 (L2.take k')).b)) ∧ 0 ≤ (chIn s B0 (L2.take k')).b ∧ Arr wr b4 38 3 VoteT.zero.cF ∧ Arr wr (b4 + 1) 38 3 (chIn s B0 (L2.take k')).cF ∧ Mod [] w wr) (fun _ i _ => L2.length - (intOf i).toNat)
      case atStart => exact ⟨0, Nat.zero_le _, rfl, rfl, hp, HR.out.1, HR.out.2.1, HR.out.2.2⟩
      case round =>
        obtain ⟨k, hk, rfl, rfl, hp2, hA, hB, hM⟩ := hrel
        clear HR
        have x9 := hM.cell' HX0.out (by simp)
        by_cases hkl : k < L2.length
        · have j0 : (0 : Int) ≤ (k : Int) := by omega
          have j1 : (k : Int) < (L2.length : Int) := by omega
          obtain ⟨b2, off2, rfl, hcell2⟩ := HX2.out (by omega)
          have y0 := hM.cell' (hcell2 k 0 hkl (by omega)) (by simp)
          have y1 := hM.cell' (hcell2 k 1 hkl (by omega)) (by simp)
          have y2 := hM.cell' (hcell2 k 2 hkl (by omega)) (by simp)
          unfold vF VoteT.cF at y0 y1 y2
          simp only [if_true, if_false, Nat.reduceEqDiff, Nat.add_zero] at y0 y1 y2
          have HS2 := Lib.hid (chIn_succ s B0 L2 k hkl)
          have hg1 : 1 ≤ (L2.getD k VoteT.zero).b := by rw [HLL.out] at hkl ⊢; exact HG.out i' k hlt hkl
          obtain ⟨x, hx⟩ : ∃ x, x = L2.getD k VoteT.zero := ⟨_, rfl⟩
          obtain ⟨B, hBe⟩ : ∃ B, B = chIn s B0 (L2.take k) := ⟨_, rfl⟩
          rw [← hx] at y0 y1 y2 HS2 hg1
          rw [← hBe] at hB HS2 hp2 ⊢
          obtain ⟨wn, hwn⟩ : ∃ wn, wn = wr.alloc (.cells #[.int .i64 x.s, .int .i64 x.b, .string x.v] 38) := ⟨_, rfl⟩
          have mn : Mod [] wr wn := by rw [hwn]; exact (Mod.refl _ _).alloc _
          have HRn := Lib.hid (And.intro (hA.mod mn (by simp)) (And.intro (hB.mod mn (by simp)) (hM.trans mn)))
          have q1 := (hB.mod mn (by simp)).cell 1 (by omega)
          have q0 := (hB.mod mn (by simp)).cell 0 (by omega)
          have q2 := (hB.mod mn (by simp)).cell 2 (by omega)
          have f0 := (hB.mod mn (by simp)).free 0
          have f1 := (hB.mod mn (by simp)).free 1
          have f2 := (hB.mod mn (by simp)).free 2
          unfold VoteT.cF at q0 q1 q2
          simp only [if_true, if_false, Nat.reduceEqDiff] at q0 q1 q2
          have HR0 := Lib.hid (And.intro hA (And.intro hB hM))
          have e0 := hB.free 0
          have e1 := hB.free 1
          have e2 := hB.free 2
          have r0 := hB.cell 0 (by omega)
          have r1 := hB.cell 1 (by omega)
          have r2 := hB.cell 2 (by omega)
          unfold VoteT.cF at r0 r1 r2
          simp only [if_true, if_false, Nat.reduceEqDiff] at r0 r1 r2
          have hbl : b4 + 1 < wr.heap.size := hB.lt
          have hbn : b4 + 1 ≠ wr.heap.size := by omega
          have hbn' : wr.heap.size ≠ b4 + 1 := by omega
          have HWN := Lib.hid hwn
          rw [hwn] at q0 q1 q2 f0 f1 f2
          have hle4 : w.heap.size ≤ b4 + 1 := by rw [HB4.out]; omega
          clear hA hB hM mn hcell2 hwn hx hBe
          by_cases hs : x.s = s
          · by_cases hb : B.b < x.b
            · have eu : updV s B x = x := by unfold updV; rw [if_pos ⟨hs, hb⟩]
              rw [eu] at HS2
              have t1 : (x.s == s) = true := by simpa using hs
              have HE := Lib.hid ((vote_set (HR0.out.2.1) x).mod ((Mod.refl [] _).alloc (.cells #[.int .i64 x.s, .int .i64 x.b, .string x.v] 38)) (by simp))
              have HM := Lib.hid ((vote_setM x HR0.out.2.2 hle4).alloc (.cells #[.int .i64 x.s, .int .i64 x.b, .string x.v] 38))
              have HA := Lib.hid ((HR0.out.1.mod (S := [b4 + 1]) (w' := ((wr.setCell ⟨b4 + 1, 0, none⟩ (.int .i64 x.s)).setCell ⟨b4 + 1, 1, none⟩ (.int .i64 x.b)).setCell ⟨b4 + 1, 2, none⟩ (.string x.v)) ((((Mod.refl _ _).setCell (.inl (by simp)) _).setCell (.inl (by simp)) _).setCell (.inl (by simp)) _) (by simp)).mod ((Mod.refl [] _).alloc (.cells #[.int .i64 x.s, .int .i64 x.b, .string x.v] 38)) (by simp))
              obtain ⟨xs, xb, xv⟩ := x
              simp only at hs hb t1 y0 y1 y2 HS2 HE HM HA HWN hg1
              subst hs
              by_cases h0 : 0 < B.b
              · go_wp2
                go_roundw
                case rel => exact ⟨k + 1, by omega, by go_num, by rw [HS2.out]; simp; omega, by rw [HS2.out]; show 0 ≤ xb; omega, HA.out, by rw [HS2.out]; exact HE.out, HM.out⟩
                case measure => simp [intOf]; omega
              · go_wp2
                go_roundw
                case rel => exact ⟨k + 1, by omega, by go_num, by rw [HS2.out]; simp; omega, by rw [HS2.out]; show 0 ≤ xb; omega, HA.out, by rw [HS2.out]; exact HE.out, HM.out⟩
                case measure => simp [intOf]; omega
            · have eu : updV s B x = B := by unfold updV; rw [if_neg (fun h => hb h.2)]
              rw [eu] at HS2
              have t1 : (x.s == s) = true := by simpa using hs
              rw [HWN.out] at HRn
              obtain ⟨xs, xb, xv⟩ := x
              simp only at hs hb t1 y0 y1 y2 HS2 HRn HWN hg1
              subst hs
              have h0 : 0 < B.b := by omega
              go_wp2
              go_roundw
              case rel => exact ⟨k + 1, by omega, by go_num, by rw [HS2.out], by rw [HS2.out]; exact hp2, HRn.out.1, by rw [HS2.out]; exact HRn.out.2.1, HRn.out.2.2⟩
              case measure => simp [intOf]; omega
          · have eu : updV s B x = B := by unfold updV; rw [if_neg (fun h => hs h.1)]
            rw [eu] at HS2
            have t1 : (x.s == s) = false := by simpa using hs
            rw [HWN.out] at HRn
            obtain ⟨xs, xb, xv⟩ := x
            simp only at hs t1 y0 y1 y2 HS2 HRn HWN hg1
            go_wp2
            go_roundw
            case rel => exact ⟨k + 1, by omega, by go_num, by rw [HS2.out], by rw [HS2.out]; exact hp2, HRn.out.1, by rw [HS2.out]; exact HRn.out.2.1, HRn.out.2.2⟩
            case measure => simp [intOf]; omega
        · have j1 : ¬ (k : Int) < (L2.length : Int) := by omega
          obtain rfl : k = L2.length := by omega
          have HRe := Lib.hid (And.intro hA (And.intro hB hM))
          rw [List.take_length, ← HNX.out] at HRe
          rw [List.take_length, ← HNX.out] at hp2
          rw [List.take_length, ← HNX.out]
          clear hA hB hM
          go_wp2
          go_roundw
          case rel => exact ⟨i' + 1, by omega, by go_num, rfl, hp2, HRe.out.1, HRe.out.2.1, HRe.out.2.2⟩
          case measure => simp [intOf]; omega
    · have i1 : ¬ (i' : Int) < (LL.length : Int) := by omega
      obtain rfl : i' = LL.length := by omega
      rw [List.take_length] at hB hp ⊢
      obtain ⟨R, hR⟩ : ∃ R, R = chAll s LL := ⟨_, rfl⟩
      rw [← hR] at hB hp
      rw [← hR]
      have HR9 := Lib.hid hR
      have q0 := hB.cell 0 (by omega)
      have q1 := hB.cell 1 (by omega)
      have q2 := hB.cell 2 (by omega)
      have p0 := hA.cell 0 (by omega)
      have p1 := hA.cell 1 (by omega)
      have p2 := hA.cell 2 (by omega)
      have g0 := hA.free 0
      have g1 := hA.free 1
      have g2 := hA.free 2
      have HF := Lib.hid (show ∀ w9, Mod [b4] wr w9 → Mod [] w w9 from fun w9 m9 => hM.fresh m9 (fun x hx => .inr (by simp at hx; rw [hx, HB4.out]; exact Nat.le_refl _)))
      have hne' : b4 + 1 ≠ b4 := by omega
      unfold VoteT.cF VoteT.zero at p0 p1 p2
      unfold VoteT.cF at q0 q1 q2
      simp only [if_true, if_false, Nat.reduceEqDiff] at q0 q1 q2 p0 p1 p2
      obtain ⟨xs, xb, xv⟩ := R
      simp only at q0 q1 q2
      clear hA hB hM hR
      go_wp2
      (try go_region)
      (try go_wp2)
      (try simp only [Exit.inBlock, Exit.then])
      refine bodyPost_ret (v := .tuple #[.agg #[.int .i64 xs, .int .i64 xb, .string xv], .bool (decide (0 < xb))]) ?_ rfl ?_
      · rw [results_cell_tmp rfl]
        go_simp
      · refine ⟨by rw [← HR9.out], HF.out _ ?_⟩
        repeat (first | (with_reducible exact Mod.refl _ _) | (with_reducible refine Mod.drew ?_) | (with_reducible refine Mod.setCell ?_ (.inl (by simp)) _))
end Go.Proofs.YtphcoenooinmfaaDoor

