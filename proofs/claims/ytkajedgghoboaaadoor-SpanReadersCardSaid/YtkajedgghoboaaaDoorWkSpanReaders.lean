/- The walk of the law SpanReaders: as many as like may read a range; nobody may write it then; the last one that reads it may be made to write, if the others are cut. The premise: the variable 'whole' holds what its initialiser lays. -/
import Derived.Test.YtkajedgghoboaaaDoorProg
import Derived.Test.YtkajedgghoboaaaDoorRow
import Derived.Test.YtkajedgghoboaaaDoorSpan8
import Derived.Test.YtkajedgghoboaaaDoorReadP
import Derived.Test.YtkajedgghoboaaaDoorPartsM
namespace Go.Proofs.YtkajedgghoboaaaDoor
open Go.RowKit
set_option linter.unusedVariables false
set_option linter.unusedSimpArgs false
attribute [local go_sem ↓] Go.wp_at_zero Go.wp_at_succ

/-- What stands between two calls: the table; the range; the variable 'whole'. -/
structure RdI (W wr : World) (B bT : Nat) (x1 x2 : Int) (t : Nat → Nat → Nat) : Prop where
  tb : Tb wr bT t
  r0 : wr.cell? ⟨B, 0, none⟩ = some (.int .i64 x1)
  r1 : wr.cell? ⟨B, 1, none⟩ = some (.int .i64 x2)
  wh : Whole wr
  md : Mod [] W wr
theorem RdI.next {W wr w' : World} {B bT : Nat} {x1 x2 : Int} {t t' : Nat → Nat → Nat} (h : RdI W wr B bT x1 x2 t) (hT : Tb w' bT t') (m : Mod [bT] wr w') (h1 : B ≠ bT) (h2 : bT ≠ 0) (h3 : W.heap.size ≤ bT) : RdI W w' B bT x1 x2 t' :=
  ⟨hT, m.cell' h.r0 (by simpa using h1), m.cell' h.r1 (by simpa using h1), h.wh.mod m (by simp; omega), h.md.fresh m (fun x hx => .inr (by simp at hx; omega))⟩
theorem RdI.same {W wr w' : World} {B bT : Nat} {x1 x2 : Int} {t : Nat → Nat → Nat} (h : RdI W wr B bT x1 x2 t) (m : Mod [] wr w') : RdI W w' B bT x1 x2 t :=
  ⟨h.tb.mod m (by simp), m.cell' h.r0 (by simp), m.cell' h.r1 (by simp), h.wh.mod m (by simp), h.md.trans m⟩

/-- And the hold that one asks. -/
structure RdJ (W wr : World) (B bT Bh : Nat) (x1 x2 k : Int) (t : Nat → Nat → Nat) : Prop where
  i : RdI W wr B bT x1 x2 t
  h0 : wr.cell? ⟨Bh, 0, none⟩ = some (.int .i64 x1)
  h1 : wr.cell? ⟨Bh, 1, none⟩ = some (.int .i64 x2)
  h2 : wr.cell? ⟨Bh, 2, none⟩ = some (.int .i64 k)
  h3 : wr.cell? ⟨Bh, 3, none⟩ = some (.int .i64 2)
  ne : Bh ≠ bT
theorem RdJ.next {W wr w' : World} {B bT Bh : Nat} {x1 x2 k : Int} {t t' : Nat → Nat → Nat} (h : RdJ W wr B bT Bh x1 x2 k t) (hT : Tb w' bT t') (m : Mod [bT] wr w') (h1 : B ≠ bT) (h2 : bT ≠ 0) (h3 : W.heap.size ≤ bT) : RdJ W w' B bT Bh x1 x2 k t' :=
  ⟨h.i.next hT m h1 h2 h3, m.cell' h.h0 (by simpa using h.ne), m.cell' h.h1 (by simpa using h.ne), m.cell' h.h2 (by simpa using h.ne), m.cell' h.h3 (by simpa using h.ne), h.ne⟩
theorem RdJ.same {W wr w' : World} {B bT Bh : Nat} {x1 x2 k : Int} {t : Nat → Nat → Nat} (h : RdJ W wr B bT Bh x1 x2 k t) (m : Mod [] wr w') : RdJ W w' B bT Bh x1 x2 k t :=
  ⟨h.i.same m, m.cell' h.h0 (by simp), m.cell' h.h1 (by simp), m.cell' h.h2 (by simp), m.cell' h.h3 (by simp), h.ne⟩

theorem range_of {W : World} {s : Array Value} (h : CellsOk W [.int .i64, .int .i64] s.toList) : ∃ a b : Int, s = #[.int .i64 a, .int .i64 b] := by
  obtain ⟨l⟩ := s
  obtain ⟨h1, h2⟩ := h
  match l, h1 with
  | [x, y], _ =>
    obtain ⟨a, rfl, _⟩ := (h2 0 _ x rfl rfl).int_inv
    obtain ⟨b, rfl, _⟩ := (h2 1 _ y rfl rfl).int_inv
    exact ⟨a, b, rfl⟩

set_option maxRecDepth 100000 in
set_option maxHeartbeats 4000000 in
theorem spanReaders_walk (W : World) (t0 : Whole W) (s0 : Array Value) (c0 : CellsOk W [.int .i64, .int .i64] s0.toList)
    (a1 : Int) (w1 : (Lit.int .u8 a1).wf = true)
    (a2 : Int) (w2 : (Lit.int .u8 a2).wf = true) :
    Calls Tryd.prog 3 #[.agg s0, .int .u8 a1, .int .u8 a2] W fun e w' => e = .returned (.bool true) ∧ Below W.heap.size W w' := by
  obtain ⟨a, b, rfl⟩ := range_of c0
  obtain ⟨n1, rfl, g1⟩ := u8_nat w1
  obtain ⟨n2, rfl, g2⟩ := u8_nat w2
  clear w1 w2 c0
  have HT := Lib.hid t0
  clear t0
  by_cases hb : blk a b = false
  · go_enter Tryd.func3, Tryd.ntmps3
    go_wp2_with (first
      | (go_at_call 14; refine (blocks_calls _ _ _).mono ?_; rintro e z1 ⟨rfl, rfl⟩)
      | (go_at_call 15; refine (shown_calls _ (HT.out.mod (((Mod.refl [] W).alloc _).alloc _) (by simp))).mono ?_; rintro e z2 ⟨rfl, m2⟩))
    go_ret
    exact ⟨rfl, ((((Mod.refl [] W).alloc _).alloc _).trans m2).below (Nat.le_refl _) (by simp)⟩
  have hb' : blk a b = true := by simpa using hb
  have hbb : 0 ≤ a ∧ a < b ∧ b ≤ 256 := by
    simp only [blk, Bool.and_eq_true, decide_eq_true_eq] at hb'
    exact ⟨hb'.1.1, hb'.1.2, hb'.2⟩
  obtain ⟨x1, rfl⟩ : ∃ x1 : Nat, a = x1 := ⟨a.toNat, by omega⟩
  obtain ⟨x2, rfl⟩ : ∃ x2 : Nat, b = x2 := ⟨b.toNat, by omega⟩
  have hx : x1 < x2 := by omega
  have hx2 : x2 ≤ 256 := by omega
  clear hb hbb
  obtain ⟨n, hn0, hn8, hnn⟩ : ∃ n : Nat, 0 < n ∧ n ≤ 8 ∧ 1 + (n1 : Int) % 8 = n := ⟨1 + n1 % 8, by omega, by omega, by omega⟩
  obtain ⟨k, hk, hkn⟩ : ∃ k : Nat, k < n ∧ (n2 : Int) % n = k := ⟨n2 % n, Nat.mod_lt _ hn0, by omega⟩
  have HN := Lib.hid hnn
  have HK := Lib.hid hkn
  clear hnn hkn
  go_enter Tryd.func3, Tryd.ntmps3
  go_wp2_with (first
    | (go_at_call 14; refine (blocks_calls _ _ _).mono ?_; rintro e z1 ⟨rfl, rfl⟩)
    | (go_at_call 15; refine (shown_calls _ (HT.out.mod (((Mod.refl [] W).alloc _).alloc _) (by simp))).mono ?_; rintro e z2 ⟨rfl, m2⟩))
  have M2 : Mod [] W z2 := (((Mod.refl [] W).alloc _).alloc _).trans m2
  have k0 : z2.cell? ⟨W.heap.size, 0, none⟩ = some (.int .i64 x1) := m2.cell' (by simp) (by simp)
  have k1 : z2.cell? ⟨W.heap.size, 1, none⟩ = some (.int .i64 x2) := m2.cell' (by simp) (by simp)
  have s2 : W.heap.size + 2 ≤ z2.heap.size := by have := m2.size; simp at this; omega
  clear m2
  refine (spNew_calls z2).mono ?_
  rintro e z3 ⟨rfl, hz3⟩
  have T3 := tb_new z2
  rw [hz3] at T3
  have M3 : Mod [] z2 z3 := by rw [← hz3]; exact (Mod.refl [] z2).alloc _
  rw [← tS_none x1 x2 1] at T3
  have I3 : RdI W z3 W.heap.size z2.heap.size x1 x2 (tS (fun d => decide (d < 0)) x1 x2 1) := ⟨T3, M3.cell' k0 (by simp), M3.cell' k1 (by simp), (HT.out.mod M2 (by simp)).mod M3 (by simp), M2.trans M3⟩
  obtain ⟨bT, hbT⟩ : ∃ bT, bT = z2.heap.size := ⟨_, rfl⟩
  rw [← hbT] at I3 s2 ⊢
  have d1 : W.heap.size ≠ bT := by omega
  have d2 : bT ≠ 0 := by omega
  have d3 : W.heap.size ≤ bT := by omega
  have HI := Lib.hid I3
  clear T3 M3 hz3 M2 k0 k1 I3 hbT
  go_wp2
  rw [HN.out]
  go_loopw [9] (fun i wr => ∃ c : Nat, c ≤ n ∧ i = .int .i64 c ∧ RdI W wr W.heap.size bT x1 x2 (tS (fun d => decide (d < c)) x1 x2 1)) (fun i _ => n - (intOf i).toNat)
  case atStart => exact ⟨0, by omega, rfl, HI.out⟩
  case round =>
    obtain ⟨c, hc, rfl, hI⟩ := hrel
    clear HI
    by_cases hlt : c < n
    · have r0 := hI.r0
      have r1 := hI.r1
      have HI := Lib.hid hI
      have PR := Lib.hid (put_reader (a := x1) (b := x2) (n := c) (by omega) hx hx2)
      clear hI
      go_wp2_with fail
      refine (spPut_calls wr bT _ x1 x2 c 1 HI.out.tb HI.out.wh d2).mono ?_
      rintro e w4 ⟨rfl, T4, M4⟩
      have J4 := HI.out.next T4 M4 d1 d2 d3
      rw [PR.out.2] at J4
      rw [PR.out.1]
      have J4' := Lib.hid J4
      clear T4 M4 r0 r1 J4
      go_wp2
      go_roundw
      case rel => exact ⟨c + 1, by omega, by go_num, J4'.out⟩
      case measure => simp [intOf]; omega
    · obtain rfl : c = n := by omega
      have hlt' : decide (c < c) = false := by simp
      have e0 : (0 : Int) < (c : Int) := by omega
      have r0 := hI.r0
      have r1 := hI.r1
      have HI := Lib.hid hI
      clear hI
      go_wp2_with fail
      rw [HK.out]
      obtain ⟨Z, hZ⟩ : ∃ Z, Z = wr.alloc (Obj.cells #[Value.int IntKind.i64 x1, Value.int IntKind.i64 x2, Value.int IntKind.i64 k, Value.int IntKind.i64 2] 31) := ⟨_, rfl⟩
      rw [← hZ]
      have JZ : RdJ W Z W.heap.size bT wr.heap.size x1 x2 k (tS (fun d => decide (d < c)) x1 x2 1) := by
        rw [hZ]
        exact ⟨HI.out.same ((Mod.refl [] wr).alloc _), by simp, by simp, by simp, by simp, by have := HI.out.tb.lt; omega⟩
      obtain ⟨Bh, hBh⟩ : ∃ Bh, Bh = wr.heap.size := ⟨_, rfl⟩
      rw [← hBh] at JZ ⊢
      clear hZ hBh r0 r1
      have HZ := Lib.hid JZ
      clear JZ
      obtain ⟨m, e1, hm, he1, hq, hpt, hL⟩ := write_try hn8 hk hx hx2
      have P1 := Lib.hid he1
      have P2 := Lib.hid hpt
      have L1 := Lib.hid hL
      have Q1 := Lib.hid hq
      clear he1 hpt hL hq
      refine (spPut_calls Z bT _ x1 x2 k 2 HZ.out.i.tb HZ.out.i.wh d2).mono ?_
      rintro e z4 ⟨rfl, T4, M4⟩
      rw [P1.out]
      have J4 := HZ.out.next T4 M4 d1 d2 d3
      rw [P2.out] at J4
      have HJ := Lib.hid J4
      have q0 := J4.h0
      have q1 := J4.h1
      have q2 := J4.h2
      have q3 := J4.h3
      clear T4 M4 J4
      obtain ⟨q, hqq⟩ : ∃ q, ((c : Int) == 1) = q := ⟨_, rfl⟩
      have hqe := Q1.out.trans hqq
      go_wp2_with fail
      refine (spAgainst_calls z4 bT _ x1 x2 k 2 HJ.out.i.tb).mono ?_
      rintro e z5 ⟨v, rfl, ho, M5⟩
      obtain ⟨p9, cap9, rfl⟩ := own_slice ho
      have J5' := HJ.out.same M5
      rw [← lefts_zero c k] at J5'
      have J5 := Lib.hid J5'
      have hL := L1.out
      obtain ⟨L, hL2⟩ : ∃ L, L = (someL (tS (fun d => decide (d < c)) x1 x2 m) x1 x2 (pAg k 2)).length := ⟨_, rfl⟩
      rw [← hL2] at hL ⊢
      have hLi : (L : Int) = (c : Int) - 1 := by omega
      clear ho M5 hL hL2 q0 q1 q2 q3 hqq hqe HJ HZ HI J5'
      go_wp2
      clear hLi
      go_loopw [12] (fun i wr => ∃ d : Nat, d ≤ c ∧ i = .int .i64 d ∧ RdJ W wr W.heap.size bT Bh x1 x2 k (tS (lefts c k d) x1 x2 m)) (fun i _ => c - (intOf i).toNat)
      case atStart => exact ⟨0, by omega, rfl, J5.out⟩
      case round =>
        obtain ⟨d, hd, rfl, hJ⟩ := hrel
        clear J5
        have r0 := hJ.i.r0
        have r1 := hJ.i.r1
        by_cases hlt2 : d < c
        · by_cases hdk : k = d
          · subst hdk
            have e5 : ((k : Int) != (k : Int)) = false := by simp
            have HJ := Lib.hid hJ
            clear hJ
            go_wp2
            go_roundw
            case rel => exact ⟨k + 1, by omega, by go_num, by rw [lefts_skip hk]; exact HJ.out⟩
            case measure => simp [intOf]; omega
          · have e5 : ((d : Int) != (k : Int)) = true := by simp; omega
            have CO := Lib.hid (cut_one (a := x1) (b := x2) (m := m) hn8 hlt2 (fun e => hdk e.symm) (by omega) hx hx2)
            have HJ := Lib.hid hJ
            clear hJ
            go_wp2_with fail
            refine (spCut_calls wr bT _ d x1 x2 HJ.out.i.tb).mono ?_
            rintro e w6 ⟨v, rfl, ho, T6, M6⟩
            rw [CO.out.1] at ho
            obtain ⟨p6, cap6, rfl⟩ := own_slice ho
            have J6 := HJ.out.next T6 M6 d1 d2 d3
            rw [CO.out.2] at J6
            have J6' := Lib.hid J6
            clear J6 T6 M6 ho r0 r1
            go_wp2
            go_roundw
            case rel => exact ⟨d + 1, by omega, by go_num, J6'.out⟩
            case measure => simp [intOf]; omega
        · obtain rfl : d = c := by omega
          have hlt3 : decide (d < d) = false := by simp
          rw [lefts_all hk] at hJ
          have HJ := Lib.hid hJ
          clear hJ
          go_wp2_with fail
          refine (spList_calls wr bT _ HJ.out.i.tb HJ.out.i.wh).mono ?_
          rintro e w7 ⟨v, rfl, ho, M7⟩
          rw [list_sole (by omega) (by omega) hx hx2] at ho
          obtain ⟨g, cap, rfl, hg1, hg2, j0, j1, j2, j3⟩ := own_one (e := 31) (a := .int .i64 x1) (b := .int .i64 x2) (c := .int .i64 k) (d := .int .i64 m) ho
          have J7 := HJ.out.same M7
          have hl7 := HJ.out.i.tb.lt
          have q0 := J7.h0
          have q1 := J7.h1
          have q2 := J7.h2
          have q3 := J7.h3
          have y0 := J7.i.r0
          have y1 := J7.i.r1
          have qn : Bh ≠ bT := J7.ne
          have SW := sole_write (a := x1) (b := x2) (k := k) (m := m) (by omega) hm hx hx2
          have HS := has_sole (a := x1) (b := x2) (k := k) (by omega) hx hx2
          have CP := Lib.hid ((spPut_calls w7.drew bT _ x1 x2 k 2 (J7.i.tb.mod ((Mod.refl [] w7).drew) (by simp)) (J7.i.wh.mod ((Mod.refl [] w7).drew) (by simp)) d2).mono (R' := fun e w' => e = .returned (.int .i64 0) ∧ Tb w' bT (tS (fun c => decide (c = k)) x1 x2 2) ∧ Mod [bT] w7 w') (by
            rintro e w' ⟨rfl, hT, hm⟩
            rw [SW.1]
            rw [SW.2] at hT
            exact ⟨rfl, hT, ((Mod.refl [bT] w7).drew).trans hm⟩))
          have CH := Lib.hid (fun (w8 : World) (h : Tb w8 bT (tS (fun c => decide (c = k)) x1 x2 2)) => (spHas_calls w8 bT _ k x1 2 h).mono (R' := fun e w' => e = .returned (.bool true) ∧ w8 = w') (by rintro e w' ⟨rfl, rfl⟩; rw [HS]; exact ⟨rfl, rfl⟩))
          have HJ7 := Lib.hid J7
          clear r0 r1 HJ M7 J7 ho SW HS
          go_wp2_with fail
          go_region_held2 (fun w' => w'.cell? ⟨W.heap.size, 0, none⟩ = some (.int .i64 x1) ∧ w'.cell? ⟨W.heap.size, 1, none⟩ = some (.int .i64 x2) ∧ w'.cell? ⟨Bh, 0, none⟩ = some (.int .i64 x1) ∧ w'.cell? ⟨Bh, 1, none⟩ = some (.int .i64 x2) ∧ w'.cell? ⟨Bh, 2, none⟩ = some (.int .i64 k) ∧ w'.cell? ⟨Bh, 3, none⟩ = some (.int .i64 2) ∧
              w'.cell? ⟨g, 0, none⟩ = some (.int .i64 x1) ∧ w'.cell? ⟨g, 1, none⟩ = some (.int .i64 x2) ∧ w'.cell? ⟨g, 2, none⟩ = some (.int .i64 k))
            (first
              | exact ⟨by simpa using y0, by simpa using y1, by simpa using q0, by simpa using q1, by simpa using q2, by simpa using q3, by simpa using j0, by simpa using j1, by simpa using j2⟩
              | exact ⟨M8.cell' y0 (by simp; omega), M8.cell' y1 (by simp; omega), M8.cell' q0 (by simp; omega), M8.cell' q1 (by simp; omega), M8.cell' q2 (by simp; omega), M8.cell' q3 (by simp; omega), M8.cell' j0 (by simp; omega), M8.cell' j1 (by simp; omega), M8.cell' j2 (by simp; omega)⟩)
            (first
              | (go_at_call 17; refine CP.out.mono ?_; rintro e z8 ⟨rfl, T8, M8⟩)
              | (go_at_call 21; refine (CH.out _ T8).mono ?_; rintro e z9 ⟨rfl, rfl⟩))
          go_wp2
          refine bodyPost_ret (results_tmp rfl _ _ _) rfl ?_
          exact ⟨rfl, (HJ7.out.i.md.fresh M8 (fun x hx => .inr (by simp at hx; omega))).below (Nat.le_refl _) (by simp)⟩
end Go.Proofs.YtkajedgghoboaaaDoor
