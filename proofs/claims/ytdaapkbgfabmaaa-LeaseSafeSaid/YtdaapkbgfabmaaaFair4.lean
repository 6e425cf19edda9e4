/- clock.Fair: what it answers is what a look at all windows comes to. No condition beyond what stands in it. -/
import Derived.Test.YtdaapkbgfabmaaaFair3
import Derived.Deep.DeepCutAuto
import Derived.Sort.CutIn
namespace Go.Proofs.Ytdaapkbgfabmaaa
open Go.RowKit Go.Shelf
set_option linter.unusedVariables false
set_option linter.unusedSimpArgs false
attribute [local go_sem] Oper.semAt_some wide_fn
attribute [local go_sem ↓] Go.wp_at_zero Go.wp_at_succ

theorem windows_calls (w : World) (A : Option Addr) (m cap : Nat) :
    Calls Try.prog 55 #[.slice A m cap] w fun e w' => e = .returned (.func (.func 62) #[] #[.pointer (some ⟨w.heap.size, 0, none⟩)]) ∧ w.alloc (.cells #[.slice A m cap] 40) = w' := by
  go_enter Try.func55, Try.ntmps55
  go_wp2
  go_ret
  exact ⟨rfl, rfl⟩


/-- The variables of Fair, from block s on. -/
structure FairV (w W : World) (s N : Nat) (num slack : Int) (x y : Int) (z : Bool) : Prop where
  b0 : Boxed W s 3 (.int .i64 N)
  b1 : Boxed W (s + 1) 3 (.int .i64 num)
  b2 : Boxed W (s + 1 + 1) 3 (.int .i64 slack)
  b3 : Boxed W (s + 1 + 1 + 1) 3 (.int .i64 x)
  b4 : Boxed W (s + 1 + 1 + 1 + 1) 3 (.int .i64 y)
  b5 : Boxed W (s + 1 + 1 + 1 + 1 + 1) 4 (.bool z)
  md : Mod [] w W
theorem FairV.mod {w W W' : World} {s N : Nat} {num slack x y : Int} {z : Bool} {T : List Nat} (h : FairV w W s N num slack x y z) (m : Mod T W W') (ht : ∀ t, t ∈ T → t ∉ [s, s + 1, s + 1 + 1, s + 1 + 1 + 1, s + 1 + 1 + 1 + 1, s + 1 + 1 + 1 + 1 + 1] ∧ w.heap.size ≤ t) : FairV w W' s N num slack x y z :=
  ⟨boxMod h.b0 m (fun e => (ht _ e).1 (by simp)), boxMod h.b1 m (fun e => (ht _ e).1 (by simp)), boxMod h.b2 m (fun e => (ht _ e).1 (by simp)), boxMod h.b3 m (fun e => (ht _ e).1 (by simp)), boxMod h.b4 m (fun e => (ht _ e).1 (by simp)), boxMod h.b5 m (fun e => (ht _ e).1 (by simp)),
   h.md.fresh m (fun t e => .inr (ht t e).2)⟩
theorem FairV.cells {w W : World} {s N : Nat} {num slack x y : Int} {z : Bool} (h : FairV w W s N num slack x y z) : ∀ k, k ∈ [s, s + 1, s + 1 + 1, s + 1 + 1 + 1, s + 1 + 1 + 1 + 1, s + 1 + 1 + 1 + 1 + 1] → IsCells W k := by
  intro k hk
  simp only [List.mem_cons, List.not_mem_nil, or_false] at hk
  rcases hk with rfl | rfl | rfl | rfl | rfl | rfl
  · exact boxCells h.b0
  · exact boxCells h.b1
  · exact boxCells h.b2
  · exact boxCells h.b3
  · exact boxCells h.b4
  · exact boxCells h.b5

theorem FairV.put {w W : World} {s N : Nat} {num slack x y : Int} {z : Bool} (h : FairV w W s N num slack x y z) (hs : w.heap.size ≤ s) (x' y' : Int) (z' : Bool) :
    FairV w (((W.setCell ⟨s + 1 + 1 + 1, 0, none⟩ (.int .i64 x')).setCell ⟨s + 1 + 1 + 1 + 1, 0, none⟩ (.int .i64 y')).setCell ⟨s + 1 + 1 + 1 + 1 + 1, 0, none⟩ (.bool z')) s N num slack x' y' z' := by
  have ne : ∀ i j : Nat, i ≠ j → (⟨i, 0, none⟩ : Addr).block ≠ j := fun i j h => h
  exact ⟨((h.b0.other (by omega) _).other (by omega) _).other (by omega) _, ((h.b1.other (by omega) _).other (by omega) _).other (by omega) _, ((h.b2.other (by omega) _).other (by omega) _).other (by omega) _,
    ((h.b3.set _).other (by omega) _).other (by omega) _, (((h.b4.other (by omega) _).set _)).other (by omega) _, ((h.b5.other (by omega) _).other (by omega) _).set _,
    ((h.md.setCell (.inr (by show w.heap.size ≤ s + 1 + 1 + 1; omega)) _).setCell (.inr (by show w.heap.size ≤ s + 1 + 1 + 1 + 1; omega)) _).setCell (.inr (by show w.heap.size ≤ s + 1 + 1 + 1 + 1 + 1; omega)) _⟩
def fairM (w : World) : List Nat := [w.heap.size, w.heap.size + 1, w.heap.size + 1 + 1, w.heap.size + 1 + 1 + 1, w.heap.size + 1 + 1 + 1 + 1, w.heap.size + 1 + 1 + 1 + 1 + 1]
def FairC (w : World) (N : Nat) (num slack : Int) (bad : Nat → Nat → Bool) (pre : List (Nat × Nat)) (M : List Nat) (W : World) : Prop := M = fairM w ∧ FairV w W w.heap.size N num slack 0 0 false ∧ ∀ y ∈ pre, bad y.1 y.2 = false
def FairX (w : World) (N : Nat) (num slack : Int) (bad : Nat → Nat → Bool) (c : Code) (pre : List (Nat × Nat)) (M : List Nat) (W : World) : Prop :=
  c = .ret ∧ M = fairM w ∧ ∃ p y, pre = p ++ [y] ∧ FairV w W w.heap.size N num slack y.1 y.2 false ∧ bad y.1 y.2 = true ∧ ∀ z ∈ p, bad z.1 z.2 = false
theorem fairNew {w W W' : World} {N : Nat} {num slack x y : Int} {z : Bool} (h : FairV w W' w.heap.size N num slack x y z) (b11 b12 : Nat) : NewIn [w.heap.size, w.heap.size + 1, w.heap.size + 1 + 1, w.heap.size + 1 + 1 + 1, w.heap.size + 1 + 1 + 1 + 1, w.heap.size + 1 + 1 + 1 + 1 + 1, b11, b12] W (fairM w) W' := by
  intro k hk
  refine ⟨h.cells k hk, .inl ?_⟩
  unfold fairM at hk
  simp only [List.mem_cons, List.not_mem_nil, or_false] at hk ⊢
  omega
theorem fairV_new (w : World) (N : Nat) (y num slack : Int) (v : Value) (hy : Value.int .i64 y = .int .i64 (N : Int)) :
    FairV w (((((((w.alloc (.cells #[.int .i64 y] 3)).alloc (.cells #[.int .i64 num] 3)).alloc (.cells #[.int .i64 slack] 3)).alloc (.cells #[.int .i64 0] 3)).alloc (.cells #[.int .i64 0] 3)).alloc (.cells #[.bool false] 4)).alloc (.cells #[v] 40)) w.heap.size N num slack 0 0 false ∧
    Boxed (((((((w.alloc (.cells #[.int .i64 y] 3)).alloc (.cells #[.int .i64 num] 3)).alloc (.cells #[.int .i64 slack] 3)).alloc (.cells #[.int .i64 0] 3)).alloc (.cells #[.int .i64 0] 3)).alloc (.cells #[.bool false] 4)).alloc (.cells #[v] 40)) (w.heap.size + 1 + 1 + 1 + 1 + 1 + 1) 40 v := by
  rw [hy]
  refine ⟨⟨((((((boxAt rfl).alloc _).alloc _).alloc _).alloc _).alloc _).alloc _, (((((boxAt (by simp)).alloc _).alloc _).alloc _).alloc _).alloc _, ((((boxAt (by simp)).alloc _).alloc _).alloc _).alloc _, (((boxAt (by simp)).alloc _).alloc _).alloc _, ((boxAt (by simp)).alloc _).alloc _, (boxAt (by simp)).alloc _, (((((((Mod.refl _ _).alloc _).alloc _).alloc _).alloc _).alloc _).alloc _).alloc _⟩, boxAt (by simp)⟩

/-- The longest and the shortest of the first k. -/
structure Ext (f : Nat → Int) (N k : Nat) (a b : Int) : Prop where
  l1 : ∃ i, i < N ∧ f i = a
  l2 : ∀ i, i < k → f i ≤ a
  s1 : ∃ i, i < N ∧ f i = b
  s2 : ∀ i, i < k → b ≤ f i
theorem Ext.step {f : Nat → Int} {N k : Nat} {a b : Int} (h : Ext f N k a b) (hk : k < N) : Ext f N (k + 1) (max a (f k)) (min b (f k)) := by
  refine ⟨?_, fun i hi => ?_, ?_, fun i hi => ?_⟩
  · rcases Int.le_total a (f k) with e | e
    · exact ⟨k, hk, by omega⟩
    · obtain ⟨i, hi, he⟩ := h.l1
      exact ⟨i, hi, by omega⟩
  · rcases Nat.lt_or_ge i k with e | e
    · have := h.l2 i e; omega
    · rw [show i = k by omega]; omega
  · rcases Int.le_total b (f k) with e | e
    · obtain ⟨i, hi, he⟩ := h.s1
      exact ⟨i, hi, by omega⟩
    · exact ⟨k, hk, by omega⟩
  · rcases Nat.lt_or_ge i k with e | e
    · have := h.s2 i e; omega
    · rw [show i = k by omega]; omega
theorem Ext.bd {f : Nat → Int} {N k : Nat} {a b : Int} (h : Ext f N k a b) (lo hi : Int) (hf : ∀ i, lo ≤ f i ∧ f i ≤ hi) : lo ≤ a ∧ a ≤ hi ∧ lo ≤ b ∧ b ≤ hi := by
  obtain ⟨i, _, rfl⟩ := h.l1
  obtain ⟨j, _, rfl⟩ := h.s1
  have := hf i
  have := hf j
  omega

def fairF (A : Option Addr) (m cap : Nat) (n num slack : Int) (s b11 b12 : Nat) (u17 u18 u19 u20 u21 u22 u23 : Value) : Act :=
  { tmps := #[.slice A m cap, .int .i64 n, .int .i64 num, .int .i64 slack, undef, .pointer (some ⟨s, 0, none⟩), .pointer (some ⟨s + 1, 0, none⟩), .pointer (some ⟨s + 1 + 1, 0, none⟩), .pointer (some ⟨s + 1 + 1 + 1, 0, none⟩), .pointer (some ⟨s + 1 + 1 + 1 + 1, 0, none⟩), .pointer (some ⟨s + 1 + 1 + 1 + 1 + 1, 0, none⟩),
      .pointer (some ⟨b11, 0, none⟩), .pointer (some ⟨b12, 0, none⟩), undef, undef, undef, undef, u17, u18, u19, u20, u21, u22, u23, undef, undef, undef, undef, undef, undef, undef, undef, undef, undef, undef, undef, undef, undef, undef, undef, undef, undef, undef, undef, undef, undef, undef, undef, undef, undef, undef, undef, undef, undef, undef, undef, undef, undef], defers := [] }

theorem run_slice_arr8 (w : World) (b N : Nat) (h : N ≤ 8) :
    (Instr.sliceAt 91 (.pointer (some ⟨b, 0, none⟩)) none (some (.int .i64 (N : Int))) none).run Try.prog w = .ok (.slice (some ⟨b, 0, none⟩) N 8) w := by
  have h1 : (N : Int) ≤ 8 := by omega
  have h0 : ¬ (N : Int) < 0 := by omega
  unfold Instr.sliceAt
  simp [go_sem, Try.underlying91]
  exact fun h => absurd h (by omega)

set_option maxRecDepth 100000 in
set_option maxHeartbeats 4000000 in
theorem fair_calls (w : World) (v : Value) (m : Nat) (len : Nat → Nat) (x : Nat → Nat → Int) (hT : Ticks w v m len x) (hm : m ≤ 1000) (n num slack : Int) :
    Calls Try.prog 24 #[v, .int .i64 n, .int .i64 num, .int .i64 slack] w fun e w' => FairE (badB (rwOf len x) (max 1 (min n 8)).toNat (clampV num 1000) (clampV slack 1048576)) m e ∧ Mod [] w w' := by
  obtain ⟨N, hN, hN1, hN8⟩ : ∃ N : Nat, max 1 (min n 8) = (N : Int) ∧ 1 ≤ N ∧ N ≤ 8 := ⟨(max 1 (min n 8)).toNat, by omega, by omega, by omega⟩
  rw [hN, Int.toNat_natCast]
  have key : ∀ y : Int, max 1 (min n 8) = y → Value.int .i64 y = .int .i64 (N : Int) := fun y h => by rw [← hN, h]
  have KEY := Lib.hid key
  clear hN key
  obtain ⟨A, cap, rv, rfl, h2, h3, h4, h5⟩ := hT.ex
  refine calls_of_wp_marks Try.func24 rfl ?_
  simp only [Try.ntmps24, List.size_toArray, List.length_cons, List.length_nil, Nat.reduceAdd, Nat.reduceSub, Array.replicate_succ, Array.replicate_zero, List.push_toArray, List.append_toArray, List.nil_append, List.cons_append]
  clear h4 h5
  go_upto_region 1 with (fail)
  go_cut [5] from 17 to 19 (fun s5 wx => s5 = .pointer (some ⟨w.heap.size, 0, none⟩) ∧ wx = (((((w.alloc (.cells #[.int .i64 (N : Int)] 3)).alloc (.cells #[.int .i64 num] 3)).alloc (.cells #[.int .i64 slack] 3)).alloc (.cells #[.int .i64 0] 3)).alloc (.cells #[.int .i64 0] 3)).alloc (.cells #[.bool false] 4))
  case first =>
    go_wp2
    all_goals
      go_meet
      exact ⟨rfl, by rw [KEY.out _ (by omega)]⟩
  case rest =>
    obtain ⟨rfl, rfl⟩ := hcut
    go_wp2_with (go_at_call 55; refine (windows_calls _ _ _ _).mono ?_; rintro e w' ⟨rfl, rfl⟩)
    have hV := fairV_new w N N num slack (.slice A m cap) rfl
    refine (show (∀ W1 : World, FairV w W1 w.heap.size N num slack 0 0 false → Boxed W1 (w.heap.size + 1 + 1 + 1 + 1 + 1 + 1) 40 (.slice A m cap) → W1.heap.size = w.heap.size + 7 → Code.wp _ _ _ _ W1) → _ from fun H => H _ hV.1 hV.2 (by simp)) ?_
    clear hV
    intro W1 hV hBt hs1
    have cBt := hBt.cell
    refine rf_wp (α := Nat × Nat) (gf := 62) (lb := #[.pointer (some ⟨w.heap.size + 1 + 1 + 1 + 1 + 1 + 1, 0, none⟩)]) rfl (enters_of Try.func62 (by kernel_rfl) rfl) (fun _ => rfl)
      (windows_iter W1 (w.heap.size + 1 + 1 + 1 + 1 + 1 + 1) w.heap.size (.slice A m cap) m len x w rfl hT (hV.md.under (Nat.le_refl _) (by simp)) (by omega) hm cBt) w.heap.size (by omega) (fun k hk => by rcases hk with hk | hk <;> omega) (by simp)
      (FairC w N num slack (badB (rwOf len x) N (clampV num 1000) (clampV slack 1048576)))
      (FairX w N num slack (badB (rwOf len x) N (clampV num 1000) (clampV slack 1048576)))
      (fun pre y a' M W => ∃ b11 b12 u17 u18 u19 u20 u21 u22 u23, M = [w.heap.size, w.heap.size + 1, w.heap.size + 1 + 1, w.heap.size + 1 + 1 + 1, w.heap.size + 1 + 1 + 1 + 1, w.heap.size + 1 + 1 + 1 + 1 + 1, b11, b12] ∧ FairV w W w.heap.size N num slack 0 0 false ∧ (∀ y ∈ pre, badB (rwOf len x) N (clampV num 1000) (clampV slack 1048576) y.1 y.2 = false) ∧
        a' = fairF A m cap n num slack w.heap.size b11 b12 u17 u18 u19 u20 u21 u22 u23 ∧ Arr W b11 90 2 (fun i => .int .i64 (if i = 0 then y.1 else y.2)) ∧ Arr W b12 91 8 (fun j => .int .i64 (sumW (rwOf len x) y.1 (y.2 + 1 - y.1) j)))
      ?hFc ?hFx ?hFa (fairM w) ⟨rfl, hV, by simp⟩ (fun k hk => ⟨hV.cells k hk, by simp, by unfold fairM at hk; simp at hk; omega⟩) ?assign ?body ?done ?stop
    case hFc =>
      rintro s M B B' T ⟨rfl, hv, hb⟩ hm ht
      exact ⟨rfl, hv.mod hm ht, hb⟩
    case hFx =>
      rintro c s M B B' T ⟨rfl, rfl, p, y, rfl, hv, hb, hp⟩ hm ht
      exact ⟨rfl, rfl, p, y, rfl, hv.mod hm ht, hb, hp⟩
    case hFa =>
      rintro s y a' M B B' T ⟨b11, b12, u17, u18, u19, u20, u21, u22, u23, rfl, hv, hb, rfl, h11, h12⟩ hm ht
      exact ⟨b11, b12, u17, u18, u19, u20, u21, u22, u23, rfl, hv.mod hm (fun t e => ⟨fun e' => (ht t e).1 (by simp at e' ⊢; omega), (ht t e).2⟩), hb, rfl, h11.mod hm (fun e => (ht _ e).1 (by simp)), h12.mod hm (fun e => (ht _ e).1 (by simp))⟩
    case assign =>
      rintro l pre y M W K ⟨rfl, hv, hb⟩ hK
      have h11 := Arr.new' W #[.int .i64 y.1, .int .i64 y.2] 90 2 (fun i => .int .i64 (if i = 0 then (y.1 : Int) else y.2)) rfl (fun i hi => by
        match i, hi with
        | 0, _ | 1, _ => rfl
        | n + 2, h => exact absurd h (by omega))
      have h12 := arr8_new (W.alloc (.cells #[.int .i64 y.1, .int .i64 y.2] 90)) 91 (sumW (rwOf len x) y.1 (y.2 + 1 - y.1))
      rw [World.size_alloc] at h12
      have md : Mod [] W ((W.alloc (.cells #[.int .i64 y.1, .int .i64 y.2] 90)).alloc (.cells (waysA (sumW (rwOf len x) y.1 (y.2 + 1 - y.1))) 91)) := ((Mod.refl _ _).alloc _).alloc _
      have H11 := Lib.hid (h11.alloc (.cells (waysA (sumW (rwOf len x) y.1 (y.2 + 1 - y.1))) 91))
      have H12 := Lib.hid h12
      have HM := Lib.hid md
      clear h11 h12 md
      unfold winEnc waysA
      unfold waysA at H11 H12 HM
      gi_wp2
      refine hK _ [w.heap.size, w.heap.size + 1, w.heap.size + 1 + 1, w.heap.size + 1 + 1 + 1, w.heap.size + 1 + 1 + 1 + 1, w.heap.size + 1 + 1 + 1 + 1 + 1, W.heap.size, W.heap.size + 1] _ ⟨_, _, _, _, _, _, _, _, _, rfl, hv.mod HM.out (by simp), hb, rfl, H11.out, H12.out⟩ HM.out.nil ?_
      intro k hk
      simp only [List.mem_cons, List.not_mem_nil, or_false] at hk
      by_cases e1 : k = W.heap.size
      · subst e1; exact ⟨H11.out.isCells, .inr (Nat.le_refl _)⟩
      · by_cases e2 : k = W.heap.size + 1
        · subst e2; exact ⟨H12.out.isCells, .inr (by omega)⟩
        · have hk' : k ∈ [w.heap.size, w.heap.size + 1, w.heap.size + 1 + 1, w.heap.size + 1 + 1 + 1, w.heap.size + 1 + 1 + 1 + 1, w.heap.size + 1 + 1 + 1 + 1 + 1] := by simp only [List.mem_cons, List.not_mem_nil, or_false]; omega
          exact ⟨(hv.cells k hk').mod HM.out (by simp), .inl hk'⟩
    case body =>
      rintro l pre y a' M W ⟨b11, b12, u17, u18, u19, u20, u21, u22, u23, rfl, hv, hb, rfl, h11, h12⟩ hlen
      have hmx : Try.prog.follows .mixedOrders = true := by kernel_rfl
      have cN := hv.b0.cell
      have cn := hv.b1.cell
      have cs := hv.b2.cell
      have c3 := hv.b3.cell
      have c4 := hv.b4.cell
      have c5 := hv.b5.cell
      have f3 := hv.b3.frozen
      have f4 := hv.b4.frozen
      have f5 := hv.b5.frozen
      have d0 : W.cell? ⟨b11, 0, none⟩ = some (.int .i64 y.1) := h11.cell 0 (by omega)
      have d1 : W.cell? ⟨b11, 1, none⟩ = some (.int .i64 y.2) := h11.cell 1 (by omega)
      have e0 : W.cell? ⟨b12, 0, none⟩ = some (.int .i64 (sumW (rwOf len x) y.1 (y.2 + 1 - y.1) 0)) := h12.cell 0 (by omega)
      have hy2 : y.2 < m := (mem_wins.1 (hlen.subset (by simp))).1
      unfold fairF
      gi_wp2
      gi_cut [13, 14] from 24 (fun s13 s14 wx => s13 = .int .i64 (sumW (rwOf len x) y.1 (y.2 + 1 - y.1) 0) ∧ s14 = .int .i64 (sumW (rwOf len x) y.1 (y.2 + 1 - y.1) 0) ∧ wx = W.drew)
      case first =>
        gi_region_with_o (fail)
        all_goals (gi_wp2; gi_meet; exact ⟨rfl, rfl, rfl⟩)
      case rest =>
        obtain ⟨rfl, rfl, rfl⟩ := hcut
        have hW := fun i => sumW_bd (rwOf_ok len x) y.1 i (y.2 + 1 - y.1)
        have HW := Lib.hid hW
        clear hW
        have hsl := run_slice_arr8 (W.drew) b12 N hN8
        gi_wp2
        trace_state
        gi_loop [13, 14, 16, 31] (fun lg sh _ i => ∃ (k : Nat) (a b : Int), k ≤ N ∧ i = .int .i64 k ∧ lg = .int .i64 a ∧ sh = .int .i64 b ∧ Hid (Ext (sumW (rwOf len x) y.1 (y.2 + 1 - y.1)) N k a b)) (fun _ _ _ i => N - (intOf i).toNat)
        case atStart => exact ⟨0, _, _, Nat.zero_le _, rfl, rfl, rfl, Lib.hid ⟨⟨0, by omega, rfl⟩, fun i hi => absurd hi (by omega), ⟨0, by omega, rfl⟩, fun i hi => absurd hi (by omega)⟩⟩
        case round =>
          obtain ⟨k, a, b, hk, rfl, rfl, rfl, hE⟩ := hrel
          by_cases hlt : k < N
          · have ek : W.cell? ⟨b12, k, none⟩ = some (.int .i64 (sumW (rwOf len x) y.1 (y.2 + 1 - y.1) k)) := h12.cell k (by omega)
            have i0 : (0 : Int) ≤ (k : Int) := by omega
            have i1 : (k : Int) < 8 := by omega
            have i2 : (k : Int) < (N : Int) := by omega
            have E2 := Lib.hid (hE.out.step hlt)
            generalize sumW (rwOf len x) y.1 (y.2 + 1 - y.1) k = z at *
            clear hE
            gi_wp2
            all_goals
              go_round
              case rel => exact ⟨k + 1, max a z, min b z, by omega, by go_num, by congr 1; split <;> omega, by congr 1; split <;> omega, E2⟩
              case measure => simp [intOf]; omega
          · obtain rfl : k = N := by omega
            obtain ⟨a0, a1, b0, b1⟩ := hE.out.bd 0 (1048576000000) (fun i => by have := HW.out i; omega)
            obtain ⟨q0, q1⟩ := clampV_bd num 1000 (by omega)
            obtain ⟨r0, r1⟩ := clampV_bd slack 1048576 (by omega)
            have p0 : 0 ≤ (100 + clampV num 1000) * b := Int.mul_nonneg (by omega) b0
            have p1 : (100 + clampV num 1000) * b ≤ 1100 * 1048576000000 := Int.mul_le_mul (by omega) b1 b0 (by omega)
            have hEE := hE.out
            have hO := outr_of (rw := rwOf len x) (n := k) (a := y.1) (b := y.2) (num := clampV num 1000) (slack := clampV slack 1048576) (long := a) (short := b) q0 hEE.l1 hEE.l2 hEE.s1 hEE.s2
            have HO := Lib.hid hO
            clear hEE hO
            gi_wp2
            · refine wpIn_region_quiet_round (by kernel_rfl) (fun ⟨_, _, h⟩ => h) (by kernel_rfl) (by kernel_rfl) ?_
              repeat (go_big_quiet_step ((go_at_call 52; exact quiet_roC (clamp_calls _ _ _))))
              refine wpQuiet_nil ?_
              intro _ hw'
              obtain ⟨nq, hw''⟩ := hw'
              subst hw''
              by_cases hbad : (100 + clampV num 1000) * b + 100 * clampV slack 1048576 < 100 * a
              · have hB := badB_yes.2 (HO.out.2 hbad)
                have HB := Lib.hid hB
                clear hB
                gi_wp2
                gi_region_with_o (fail)
                all_goals gi_wp2
                all_goals
                  have hv' := (hv.mod ((Mod.refl [] W).drewN (1 + nq + 1)) (by simp)).put (Nat.le_refl _) y.1 y.2 false
                  exact ⟨fairM w, ⟨rfl, rfl, pre, y, rfl, hv', HB.out, hb⟩, (((((Mod.refl _ W).drewN (1 + nq + 1)).setCell (by simp) _).setCell (by simp) _).setCell (by simp) _), fairNew hv' b11 b12⟩
              · have hB : badB (rwOf len x) k (clampV num 1000) (clampV slack 1048576) y.1 y.2 = false := badB_no.2 (fun h => hbad (HO.out.1 h))
                have HB := Lib.hid hB
                have hbad' : decide ((100 + clampV num 1000) * b + 100 * clampV slack 1048576 < 100 * a) = false := by simpa using hbad
                clear hB
                gi_wp2
                have hv' := hv.mod ((Mod.refl [] W).drewN (1 + nq)) (by simp)
                exact ⟨fairM w, ⟨rfl, hv', fun z hz => by
                  rcases List.mem_append.1 hz with h | h
                  · exact hb z h
                  · rw [List.mem_singleton.1 h]; exact HB.out⟩, (Mod.refl _ W).drewN _, fairNew hv' b11 b12⟩
    case done =>
      rintro ys M W rfl ⟨rfl, hv, hb⟩ hold hD hlt hnm
      have f3 := hv.b3.frozen
      have f4 := hv.b4.frozen
      have f5 := hv.b5.frozen
      have c3 := hv.b3.cell
      have c4 := hv.b4.cell
      have c5 := hv.b5.cell
      have hv3 := hv.put (Nat.le_refl _) 0 0 true
      have m3 : Mod (fairM w) W (((W.setCell ⟨w.heap.size + 1 + 1 + 1, 0, none⟩ (.int .i64 0)).setCell ⟨w.heap.size + 1 + 1 + 1 + 1, 0, none⟩ (.int .i64 0)).setCell ⟨w.heap.size + 1 + 1 + 1 + 1 + 1, 0, none⟩ (.bool true)) :=
        (((Mod.refl _ W).setCell (by simp [fairM]) _).setCell (by simp [fairM]) _).setCell (by simp [fairM]) _
      have hK := m3.heap hD hnm
      have hv4 := hv3.mod (mod_putObj _ W1.heap.size (.deferred none)) (fun t ht => by
        simp only [List.mem_singleton] at ht
        subst ht
        exact ⟨hnm, by omega⟩)
      have V4 := Lib.hid hv4
      have HK := Lib.hid hK
      clear hv3 m3 hK hv4
      go_wp2
      refine ⟨by simp, .inl ⟨_, _, rfl, run_takeDeferred HK.out, ?_⟩⟩
      have k3 := V4.out.b3.cell
      have k4 := V4.out.b4.cell
      have k5 := V4.out.b5.cell
      exact ⟨.tuple #[.int .i64 0, .int .i64 0, .bool true], by simp [results, Try.f24, go_sem, k3, k4, k5], ⟨_, _, _, rfl, fairIs_done hb⟩, V4.out.md⟩
    case stop =>
      rintro c pre M W hp ⟨rfl, rfl, p, y, rfl, hv, hb, hq⟩ hold hD hlt hnm
      have hv4 := hv.mod (mod_putObj _ W1.heap.size (.deferred none)) (fun t ht => by
        simp only [List.mem_singleton] at ht
        subst ht
        exact ⟨hnm, by omega⟩)
      have V4 := Lib.hid hv4
      clear hv4
      go_wp2
      refine ⟨by simp, .inl ⟨_, _, rfl, run_takeDeferred hD, ?_⟩⟩
      have k3 := V4.out.b3.cell
      have k4 := V4.out.b4.cell
      have k5 := V4.out.b5.cell
      exact ⟨.tuple #[.int .i64 y.1, .int .i64 y.2, .bool false], by simp [results, Try.f24, go_sem, k3, k4, k5], ⟨_, _, _, rfl, fairIs_stop hp hb hq⟩, V4.out.md⟩
end Go.Proofs.Ytdaapkbgfabmaaa
