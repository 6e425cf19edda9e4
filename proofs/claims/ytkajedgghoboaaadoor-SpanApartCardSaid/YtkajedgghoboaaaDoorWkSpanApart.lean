/- The walk of the law SpanApart: never does a client have a block to write that another one has; the ranges of a client rise, and do not meet. The premise: the variable 'whole' holds what its initialiser lays. -/
import Derived.Test.YtkajedgghoboaaaDoorProg
import Derived.Test.YtkajedgghoboaaaDoorRow
import Derived.Test.YtkajedgghoboaaaDoorRefA
import Derived.Test.YtkajedgghoboaaaDoorApartP
import Derived.Deep.DeepCutAuto
import Derived.Deep.RegionHeld3
namespace Go.Proofs.YtkajedgghoboaaaDoor
open Go.RowKit
set_option linter.unusedVariables false
set_option linter.unusedSimpArgs false
attribute [local go_sem ↓] Go.wp_at_zero Go.wp_at_succ

/-- Between two calls: a table in which no two clients clash. -/
structure ApI (W wr : World) (bT : Nat) : Prop where
  ex : ∃ t, Tb wr bT t ∧ Apart t
  wh : Whole wr
  md : Mod [] W wr
theorem ApI.next {W wr w' : World} {bT : Nat} {t' : Nat → Nat → Nat} (h : ApI W wr bT) (hT : Tb w' bT t') (ha : Apart t') (m : Mod [bT] wr w') (h2 : bT ≠ 0) (h3 : W.heap.size ≤ bT) : ApI W w' bT :=
  ⟨⟨_, hT, ha⟩, h.wh.mod m (by simp; omega), h.md.fresh m (fun x hx => .inr (by simp at hx; omega))⟩
theorem ApI.same {W wr w' : World} {bT : Nat} (h : ApI W wr bT) (m : Mod [] wr w') : ApI W w' bT := by
  obtain ⟨⟨t, h1, h2⟩, h3, h4⟩ := h
  exact ⟨⟨t, h1.mod m (by simp), h2⟩, h3.mod m (by simp), h4.trans m⟩
theorem own_holds {w : World} {base : Nat} {e : TypeId} {v : Value} {L : List HoldT} (h : w.ownsRow base e 4 v L.length (hcells L)) :
    ∃ p cap, v = .slice p L.length cap ∧ (0 < L.length → ∃ g, p = some ⟨g, 0, none⟩ ∧ base ≤ g ∧ g < w.heap.size ∧ ∀ i x, L[i]? = some x →
      w.cell? ⟨g, i * 4, none⟩ = some (.int .i64 x.1) ∧ w.cell? ⟨g, i * 4 + 1, none⟩ = some (.int .i64 x.2.1) ∧ w.cell? ⟨g, i * 4 + 2, none⟩ = some (.int .i64 x.2.2.1) ∧ w.cell? ⟨g, i * 4 + 3, none⟩ = some (.int .i64 x.2.2.2)) := by
  rcases Nat.eq_zero_or_pos L.length with h0 | h0
  · obtain ⟨p, cap, rfl⟩ := own_slice h
    exact ⟨p, cap, rfl, fun h => absurd h (by omega)⟩
  · obtain ⟨g, cap, rfl, h1, h2, h3⟩ := own_hold h h0
    exact ⟨_, cap, rfl, fun _ => ⟨g, rfl, h1, h2, h3⟩⟩

/-- A new block of two cells, behind a call that changed nothing. -/
theorem new2 {w z : World} {a b : Value} {T : TypeId} (m : Mod [] (w.alloc (.cells #[a, b] T)).drew z) :
    z.cell? ⟨w.heap.size, 0, none⟩ = some a ∧ z.cell? ⟨w.heap.size, 1, none⟩ = some b ∧ z.frozen? ⟨w.heap.size, 0, none⟩ = false ∧ z.frozen? ⟨w.heap.size, 1, none⟩ = false :=
  ⟨m.cell' (by simp) (by simp), m.cell' (by simp) (by simp), (m.frozen (p := ⟨w.heap.size, 0, none⟩) (by simp) (by simp)).trans (by simp), (m.frozen (p := ⟨w.heap.size, 1, none⟩) (by simp) (by simp)).trans (by simp)⟩

set_option maxRecDepth 100000 in
set_option maxHeartbeats 4000000 in
theorem spanApart_walk (W : World) (t0 : Whole W) (v0 : Value) (c0 : CellOk W (.sl [.int .i64, .int .i64, .int .i64, .int .i64, .int .i64]) v0) :
    Calls Tryd.prog 6 #[v0] W fun e w' => e = .returned (.bool true) ∧ Below W.heap.size W w' := by
  obtain ⟨n, f, hA, hf⟩ := c0.slA (by simp)
  obtain ⟨A, cap0, rfl, hn, hcap, hcell⟩ := hA.ex
  have hcap' : cap0 ≤ 9223372036854775807 := by unfold maxLen at hcap; omega
  clear hcap c0 hA
  have HT := Lib.hid t0
  clear t0
  by_cases h40 : 40 < n
  · have hi : (40 : Int) < (n : Int) := by omega
    go_enter Tryd.func6, Tryd.ntmps6
    go_wp2_with (go_at_call 15; refine (shown_calls _ HT.out).mono ?_; rintro e w' ⟨rfl, m⟩)
    go_ret
    exact ⟨rfl, m.below (Nat.le_refl _) (by simp)⟩
  have h5 : decide (40 < n) = false := by simpa using h40
  go_enter Tryd.func6, Tryd.ntmps6
  go_wp2_with fail
  refine (shown_calls _ HT.out).mono ?_
  rintro e z2 ⟨rfl, m2⟩
  go_wp2_with fail
  refine (spNew_calls z2).mono ?_
  rintro e z3 ⟨rfl, hz3⟩
  have T3 := tb_new z2
  rw [hz3] at T3
  have M3 : Mod [] z2 z3 := by rw [← hz3]; exact (Mod.refl [] z2).alloc _
  have I3 : ApI W z3 z2.heap.size := ⟨⟨_, T3, apart_zero⟩, (HT.out.mod m2 (by simp)).mod M3 (by simp), m2.trans M3⟩
  have s0 : 0 < W.heap.size := World.block_lt_of_cell? W _ HT.out.1
  have s2 : W.heap.size ≤ z2.heap.size := m2.size
  obtain ⟨bT, hbT⟩ : ∃ bT, bT = z2.heap.size := ⟨_, rfl⟩
  rw [← hbT] at I3 s2 ⊢
  have d2 : bT ≠ 0 := by omega
  have HI := Lib.hid I3
  clear T3 M3 hz3 m2 I3 hbT
  go_wp2
  go_loopw [4] (fun i wr => ∃ k : Nat, k ≤ n ∧ i = .int .i64 k ∧ ApI W wr bT) (fun i _ => n - (intOf i).toNat)
  case atStart => exact ⟨0, Nat.zero_le _, rfl, HI.out⟩
  case round =>
    obtain ⟨k, hkn, rfl, hI⟩ := hrel
    clear HI
    by_cases hlt : k < n
    · obtain ⟨bl, off, rfl, hx⟩ := hcell (by omega)
      obtain ⟨x0, e0, q0⟩ := (hf k 0 _ hlt rfl).int_inv
      obtain ⟨x1, e1, q1⟩ := (hf k 1 _ hlt rfl).int_inv
      obtain ⟨x2, e2, q2⟩ := (hf k 2 _ hlt rfl).int_inv
      obtain ⟨x3, e3, q3⟩ := (hf k 3 _ hlt rfl).int_inv
      obtain ⟨x4, e4, q4⟩ := (hf k 4 _ hlt rfl).int_inv
      have y0 := hx k 0 hlt (by simp)
      have y1 := hx k 1 hlt (by simp)
      have y2 := hx k 2 hlt (by simp)
      have y3 := hx k 3 hlt (by simp)
      have y4 := hx k 4 hlt (by simp)
      rw [e0] at y0
      rw [e1] at y1
      rw [e2] at y2
      rw [e3] at y3
      rw [e4] at y4
      simp only [List.length_cons, List.length_nil, Nat.zero_add, Nat.reduceAdd, Nat.add_zero] at y0 y1 y2 y3 y4
      replace y0 := hI.md.cell' y0 (by simp)
      replace y1 := hI.md.cell' y1 (by simp)
      replace y2 := hI.md.cell' y2 (by simp)
      replace y3 := hI.md.cell' y3 (by simp)
      replace y4 := hI.md.cell' y4 (by simp)
      clear hx e0 e1 e2 e3 e4 hf hcell q0 q1 q2 q3 q4
      have i0 : (0 : Int) ≤ (k : Int) := by omega
      have i1 : (k : Int) < (n : Int) := by omega
      have hbl := World.block_lt_of_cell? wr _ y0
      have IZ := Lib.hid (hI.same ((Mod.refl [] wr).alloc (.cells #[.int .i64 x1, .int .i64 x2, .int .i64 x3, .int .i64 x4] 31)))
      clear hI
      have kinds : (x0 == 0) = true ∨ ((x0 == 0) = false ∧ (x0 == 1) = true) ∨ ((x0 == 0) = false ∧ (x0 == 1) = false ∧ (x0 == 2) = true) ∨ ((x0 == 0) = false ∧ (x0 == 1) = false ∧ (x0 == 2) = false ∧ (x0 == 3) = true) ∨ ((x0 == 0) = false ∧ (x0 == 1) = false ∧ (x0 == 2) = false ∧ (x0 == 3) = false) := by
        cases (x0 == 0) <;> cases (x0 == 1) <;> cases (x0 == 2) <;> cases (x0 == 3) <;> simp
      rcases kinds with k0 | ⟨k0, k1⟩ | ⟨k0, k1, k2⟩ | ⟨k0, k1, k2, k3⟩ | ⟨k0, k1, k2, k3⟩
      · go_wp2_with fail
        obtain ⟨t, hT, ha⟩ := IZ.out.ex
        refine (spPut_calls _ bT t x1 x2 x3 x4 hT IZ.out.wh d2).mono ?_
        rintro e w4 ⟨rfl, T4, M4⟩
        have J4 := Lib.hid (IZ.out.next T4 (apart_put ha hT.bd _ _ _ _) M4 d2 s2)
        clear T4 M4 hT ha y0 y1 y2 y3 y4
        go_wp2
        go_roundw
        case rel => exact ⟨k + 1, by omega, by go_num, J4.out⟩
        case measure => simp [intOf]; omega
      · go_wp2_with fail
        obtain ⟨t, hT, ha⟩ := IZ.out.ex
        refine (spCut_calls _ bT t x3 x1 x2 hT).mono ?_
        rintro e w4 ⟨v, rfl, -, T4, M4⟩
        have J4 := Lib.hid (IZ.out.next T4 (apart_set ha _ _ _ rfl (fun _ h => absurd (show (0 : Nat) = 2 from h) (by decide))) M4 d2 s2)
        clear T4 M4 hT ha y0 y1 y2 y3 y4
        go_wp2
        go_roundw
        case rel => exact ⟨k + 1, by omega, by go_num, J4.out⟩
        case measure => simp [intOf]; omega
      · go_wp2_with fail
        obtain ⟨t, hT, ha⟩ := IZ.out.ex
        refine (spWeaken_calls _ bT t x3 x1 x2 hT).mono ?_
        rintro e w4 ⟨v, rfl, -, T4, M4⟩
        have J4 := Lib.hid (IZ.out.next T4 (apart_set ha _ _ _ rfl (fun m h => by have h' : min m 1 = 2 := h; omega)) M4 d2 s2)
        clear T4 M4 hT ha y0 y1 y2 y3 y4
        go_wp2
        go_roundw
        case rel => exact ⟨k + 1, by omega, by go_num, J4.out⟩
        case measure => simp [intOf]; omega
      · go_wp2_with fail
        obtain ⟨t, hT, ha⟩ := IZ.out.ex
        refine (spDrop_calls _ bT t x3 hT IZ.out.wh).mono ?_
        rintro e w4 ⟨v, rfl, -, T4, M4⟩
        have J4 := Lib.hid (IZ.out.next T4 (apart_set ha _ _ _ rfl (fun _ h => absurd (show (0 : Nat) = 2 from h) (by decide))) M4 d2 s2)
        clear T4 M4 hT ha y0 y1 y2 y3 y4
        go_wp2
        go_roundw
        case rel => exact ⟨k + 1, by omega, by go_num, J4.out⟩
        case measure => simp [intOf]; omega
      · go_wp2
        go_roundw
        case rel => exact ⟨k + 1, by omega, by go_num, IZ.out⟩
        case measure => simp [intOf]; omega
    · obtain rfl : k = n := by omega
      have hlt' : decide (k < k) = false := by simp
      clear hcell hf
      have HI := Lib.hid hI
      clear hI
      go_wp2_with fail
      obtain ⟨t, hT, ha⟩ := HI.out.ex
      refine (spList_calls wr bT t hT HI.out.wh).mono ?_
      rintro e zL ⟨v, rfl, ho, ML⟩
      obtain ⟨p, capL, rfl, hcell⟩ := own_holds ho
      have MWL := Lib.hid (HI.out.md.trans ML)
      have hcl : capL ≤ 9223372036854775807 ∧ (listL t).length ≤ capL := by
        obtain ⟨_, h2 | ⟨g, cap, cur, he, hg, hh, h1, h2, h3, h4⟩⟩ := ho
        · have h3 := h2.1
          injection h3 with _ _ h5
          rw [h5, h2.2]
          exact ⟨by decide, Nat.zero_le _⟩
        · cases he
          unfold maxLen at h2
          exact ⟨by omega, h1⟩
      obtain ⟨hcl1, hcl2⟩ := hcl
      have HA := Lib.hid ha
      have HB := Lib.hid hT.bd
      obtain ⟨L, hL⟩ : ∃ L, L = listL t := ⟨_, rfl⟩
      have HL := Lib.hid hL
      rw [← hL] at hcell hcl2 ⊢
      clear ho ML hT ha hL HI
      obtain ⟨N, hN⟩ : ∃ N, N = L.length := ⟨_, rfl⟩
      rw [← hN] at hcell hcl2 ⊢
      have HN := Lib.hid hN
      clear hN
      go_wp2
      go_loopw [7] (fun i wr => ∃ k : Nat, k ≤ N ∧ i = .int .i64 k ∧ Mod [] zL wr) (fun i _ => N - (intOf i).toNat)
      case atStart => exact ⟨0, Nat.zero_le _, rfl, Mod.refl _ _⟩
      case round =>
        obtain ⟨i, hiN, rfl, hM⟩ := hrel
        by_cases hlt2 : i < N
        · obtain ⟨g, rfl, hg1, hg2, hx⟩ := hcell (by omega)
          clear hcell
          have hiL : i < L.length := by rw [← HN.out]; exact hlt2
          obtain ⟨⟨a, b, c, m⟩, hh⟩ : ∃ h, L[i]? = some h := ⟨_, List.getElem?_eq_getElem hiL⟩
          obtain ⟨y0, y1, y2, y3⟩ := hx i _ hh
          have hmem : (a, b, c, m) ∈ listL t := by rw [← HL.out]; exact List.mem_of_getElem? hh
          have ok := (holds_ok hmem).1
          have hm := listL_two HB.out hmem
          have ok1 : a < b := ok.ab
          have ok2 : b ≤ 256 := by have := ok.b; simpa using this
          have hblk : blk (a : Int) (b : Int) = true := by simp [blk]; omega
          clear ok
          dsimp only at y0 y1 y2 y3 hm
          replace y0 := hM.cell' y0 (by simp)
          replace y1 := hM.cell' y1 (by simp)
          replace y2 := hM.cell' y2 (by simp)
          replace y3 := hM.cell' y3 (by simp)
          have i0 : (0 : Int) ≤ (i : Int) := by omega
          have i1 : (i : Int) < (N : Int) := by omega
          have HH := Lib.hid hh
          have HX := Lib.hid hx
          have HM := Lib.hid hM
          clear hh hx hM
          have hgl := World.block_lt_of_cell? wr _ y0
          rcases hm with rfl | rfl
          all_goals
            go_wp2_with (go_at_call 14; refine (blocks_calls _ _ _).mono ?_; rintro e z6 ⟨rfl, rfl⟩)
            have hz6 : Mod [] zL (wr.alloc (.cells #[.int .i64 a, .int .i64 b] 23)) := HM.out.alloc _
            clear y0 y1 y2 y3
            obtain ⟨z6, hz⟩ : ∃ z6, z6 = wr.alloc (.cells #[.int .i64 a, .int .i64 b] 23) := ⟨_, rfl⟩
            rw [← hz] at hz6 ⊢
            clear hz hgl HM
            have H6 := Lib.hid hz6
            clear hz6
            go_loopw [8] (fun i1 wr => ∃ q : Nat, q ≤ i ∧ i1 = .int .i64 q ∧ Mod [] zL wr) (fun i1 _ => i - (intOf i1).toNat)
            case atStart => exact ⟨0, Nat.zero_le _, rfl, H6.out⟩
            case round =>
              obtain ⟨q, hqi, rfl, hM⟩ := hrel
              clear H6
              by_cases hlt3 : q < i
              · have hqL : q < L.length := by rw [← HN.out]; omega
                obtain ⟨⟨a', b', c', m'⟩, hh'⟩ : ∃ h, L[q]? = some h := ⟨_, List.getElem?_eq_getElem hqL⟩
                obtain ⟨y0, y1, y2, y3⟩ := HX.out i _ HH.out
                obtain ⟨u0, u1, u2, u3⟩ := HX.out q _ hh'
                have hmem' : (a', b', c', m') ∈ listL t := by rw [← HL.out]; exact List.mem_of_getElem? hh'
                have hpair := apart_pair HA.out hmem' hmem (pair_at hlt3 (by rw [← HL.out]; exact hh') (by rw [← HL.out]; exact HH.out))
                have hm' := listL_two HB.out hmem'
                dsimp only at y0 y1 y2 y3 u0 u1 u2 u3 hpair hm'
                have KEEP := Lib.hid (fun (w' : World) (m : Mod [] wr w') => (⟨m.cell' (hM.cell' y0 (by simp)) (by simp), m.cell' (hM.cell' y1 (by simp)) (by simp), m.cell' (hM.cell' y2 (by simp)) (by simp), m.cell' (hM.cell' y3 (by simp)) (by simp), m.cell' (hM.cell' u0 (by simp)) (by simp), m.cell' (hM.cell' u1 (by simp)) (by simp), m.cell' (hM.cell' u2 (by simp)) (by simp), m.cell' (hM.cell' u3 (by simp)) (by simp)⟩ :
                  w'.cell? ⟨g, i * 4, none⟩ = some (.int .i64 a) ∧ w'.cell? ⟨g, i * 4 + 1, none⟩ = some (.int .i64 b) ∧ w'.cell? ⟨g, i * 4 + 2, none⟩ = some (.int .i64 c) ∧ w'.cell? ⟨g, i * 4 + 3, none⟩ = _ ∧
                  w'.cell? ⟨g, q * 4, none⟩ = some (.int .i64 a') ∧ w'.cell? ⟨g, q * 4 + 1, none⟩ = some (.int .i64 b') ∧ w'.cell? ⟨g, q * 4 + 2, none⟩ = some (.int .i64 c') ∧ w'.cell? ⟨g, q * 4 + 3, none⟩ = some (.int .i64 m')))
                have KS := Lib.hid (fun (w' : World) (m : Mod [] wr w') => (⟨(KEEP.out w' m).1, (KEEP.out w' m).2.1, (KEEP.out w' m).2.2.2.2.1, (KEEP.out w' m).2.2.2.2.2.1⟩ : w'.cell? ⟨g, i * 4, none⟩ = some (.int .i64 a) ∧ w'.cell? ⟨g, i * 4 + 1, none⟩ = some (.int .i64 b) ∧ w'.cell? ⟨g, q * 4, none⟩ = some (.int .i64 a') ∧ w'.cell? ⟨g, q * 4 + 1, none⟩ = some (.int .i64 b')))
                have HM := Lib.hid hM
                have j0 : (0 : Int) ≤ (q : Int) := by omega
                have j1 : (q : Int) < (N : Int) := by omega
                have HP := Lib.hid hpair
                clear hh' y0 y1 y2 y3 u0 u1 u2 u3 hpair hM
                have CA := Lib.hid ((meet_calls (wr.alloc (.cells #[.int .i64 0, .int .i64 0] 23)).drew a b a' b').mono (R' := fun e w' => e = .returned (.agg #[.int .i64 (max (a : Int) a'), .int .i64 (min (b : Int) b')]) ∧ Mod [] wr w' ∧
                    w'.cell? ⟨wr.heap.size, 0, none⟩ = some (.int .i64 0) ∧ w'.cell? ⟨wr.heap.size, 1, none⟩ = some (.int .i64 0) ∧ w'.frozen? ⟨wr.heap.size, 0, none⟩ = false ∧ w'.frozen? ⟨wr.heap.size, 1, none⟩ = false) (fun e w' ⟨he, m⟩ => ⟨he, ((Mod.refl [] wr).alloc _).drew.trans m, new2 m⟩))
                have CB := Lib.hid ((meet_calls wr.drew a b a' b').mono (R' := fun e w' => e = .returned (.agg #[.int .i64 (max (a : Int) a'), .int .i64 (min (b : Int) b')]) ∧ Mod [] wr w') (fun e w' ⟨he, m⟩ => ⟨he, (Mod.refl [] wr).drew.trans m⟩))
                go_wp2_with fail
                go_cut [9] (fun s9 wx => ∃ b9, s9 = .pointer (some ⟨b9, 0, none⟩) ∧ wx.cell? ⟨b9, 0, none⟩ = some (.int .i64 (max (a : Int) a')) ∧ wx.cell? ⟨b9, 1, none⟩ = some (.int .i64 (min (b : Int) b')) ∧ Mod [] wr wx)
                case first =>
                  go_region_held3 (fun w' => w'.cell? ⟨g, i * 4, none⟩ = some (.int .i64 a) ∧ w'.cell? ⟨g, i * 4 + 1, none⟩ = some (.int .i64 b) ∧ w'.cell? ⟨g, q * 4, none⟩ = some (.int .i64 a') ∧ w'.cell? ⟨g, q * 4 + 1, none⟩ = some (.int .i64 b'))
                    ((refine KS.out _ ?_; with_reducible first
                      | exact (Mod.refl [] wr).drew
                      | exact ((Mod.refl [] wr).alloc _).drew
                      | exact m9
                      | exact m9.alloc _
                      | exact (m9.setCell (.inr (Nat.le_refl _)) _).setCell (.inr (Nat.le_refl _)) _))
                    (first
                      | (go_at_call 27; (with_reducible refine CA.out.mono ?_); rintro e z9 ⟨rfl, m9, n0, n1, n2, n3⟩)
                      | (go_at_call 27; (with_reducible refine CB.out.mono ?_); rintro e z9 ⟨rfl, m9⟩))
                  · go_wp2
                    go_meet
                    exact ⟨_, rfl, by simp, by simp, m9.alloc _⟩
                  · go_wp2
                    go_meet
                    exact ⟨_, rfl, (World.cell?_setCell_other _ _ _ _ (by simp)).trans (World.cell?_setCell_same _ _ _ n0), World.cell?_setCell_same _ _ _ ((World.cell?_setCell_other _ _ _ _ (by simp)).trans n1), (m9.setCell (.inr (Nat.le_refl _)) _).setCell (.inr (Nat.le_refl _)) _⟩
                case rest =>
                  obtain ⟨b9, rfl, c0, c1, M9⟩ := hcut
                  obtain ⟨y0, y1, y2, y3, u0, u1, u2, u3⟩ := KEEP.out _ M9
                  have M9' := Lib.hid (HM.out.trans M9)
                  clear y0 y1 u0 u1 M9
                  by_cases hmm : max (a : Int) a' < min (b : Int) b'
                  · obtain ⟨e1, e2, e3⟩ := HP.out hmm
                    first
                    | exact absurd rfl e2
                    | obtain rfl : m' = 1 := by omega
                      have f1 : ((c : Int) == (c' : Int)) = false := by simp; omega
                      obtain ⟨X1, hX1⟩ : ∃ X1, X1 = max (a : Int) a' := ⟨_, rfl⟩
                      obtain ⟨X2, hX2⟩ : ∃ X2, X2 = min (b : Int) b' := ⟨_, rfl⟩
                      rw [← hX1] at c0 hmm
                      rw [← hX2] at c1 hmm
                      clear hX1 hX2 e1 e2 e3 hm'
                      go_wp2_with fail
                      go_quiet (fail)
                      go_wp2
                      go_roundw
                      case rel => exact ⟨q + 1, by omega, by go_num, M9'.out.drewN _⟩
                      case measure => simp [intOf]; omega
                  · obtain ⟨X1, hX1⟩ : ∃ X1, X1 = max (a : Int) a' := ⟨_, rfl⟩
                    obtain ⟨X2, hX2⟩ : ∃ X2, X2 = min (b : Int) b' := ⟨_, rfl⟩
                    rw [← hX1] at c0 hmm
                    rw [← hX2] at c1 hmm
                    have hmm' : decide (X1 < X2) = false := by simpa using hmm
                    clear hX1 hX2 hmm hm'
                    go_wp2_with fail
                    go_quiet (fail)
                    go_wp2
                    go_roundw
                    case rel => exact ⟨q + 1, by omega, by go_num, M9'.out.drewN _⟩
                    case measure => simp [intOf]; omega
              · obtain rfl : q = i := by omega
                have hlt' : decide (q < q) = false := by simp
                have HM := Lib.hid hM
                clear hM
                go_wp2
                go_roundw
                case rel => exact ⟨q + 1, by omega, by go_num, HM.out⟩
                case measure => simp [intOf]; omega
        · obtain rfl : i = N := by omega
          have hlt' : decide (i < i) = false := by simp
          go_wp2
          go_ret
          exact ⟨rfl, (MWL.out.trans hM).below (Nat.le_refl _) (by simp)⟩
end Go.Proofs.YtkajedgghoboaaaDoor
