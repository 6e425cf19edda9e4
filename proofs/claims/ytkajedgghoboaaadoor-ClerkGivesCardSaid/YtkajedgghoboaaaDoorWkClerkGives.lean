/- The walk of the law ClerkGives: what a clerk gives up it may not use any more; given up weakly it may read it still. The premise: the variable 'whole' holds what its initialiser lays. -/
import Derived.Test.YtkajedgghoboaaaDoorProg
import Derived.Test.YtkajedgghoboaaaDoorRow
import Derived.Test.YtkajedgghoboaaaDoorGivesP
import Derived.Test.YtkajedgghoboaaaDoorRefA
import Derived.Test.YtkajedgghoboaaaDoorPartsM
import Derived.Deep.DeepCutAuto
namespace Go.Proofs.YtkajedgghoboaaaDoor
open Go.RowKit
set_option linter.unusedVariables false
set_option linter.unusedSimpArgs false
attribute [local go_sem ↓] Go.wp_at_zero Go.wp_at_succ

theorem range_of {W : World} {s : Array Value} (h : CellsOk W [.int .i64, .int .i64] s.toList) : ∃ a b : Int, s = #[.int .i64 a, .int .i64 b] := by
  obtain ⟨l⟩ := s
  obtain ⟨h1, h2⟩ := h
  match l, h1 with
  | [x, y], _ =>
    obtain ⟨a, rfl, _⟩ := (h2 0 _ x rfl rfl).int_inv
    obtain ⟨b, rfl, _⟩ := (h2 1 _ y rfl rfl).int_inv
    exact ⟨a, b, rfl⟩
structure CkJ (W wr : World) (Bh Br k b p q bT : Nat) (x y c m u v : Int) (s : St) : Prop where
  i : CkI W wr Bh k b p q bT x y c m s
  rg : Arr wr Br 23 2 (rgF u v)
namespace CkJ
variable {W wr w' : World} {Bh Br k b p q bT : Nat} {x y c m u v : Int} {s s' : St}
theorem next (h : CkJ W wr Bh Br k b p q bT x y c m u v s) {S : List Nat} (hc : Clk w' k b p q bT s') (k1 : Mod S wr w') (hS : ∀ z, z ∈ S → z = k ∨ z = b ∨ z = bT) : CkJ W w' Bh Br k b p q bT x y c m u v s' :=
  ⟨h.i.next hc k1 hS, h.rg.mod k1 (fun e => by
    have n1 := arr_ne h.rg h.i.ck.arr (by decide)
    have n2 := arr_ne h.rg h.i.ck.own.arr (by decide)
    have n3 := arr_ne h.rg h.i.ck.tb.arr (by decide)
    have := hS _ e
    omega)⟩
theorem same (h : CkJ W wr Bh Br k b p q bT x y c m u v s) (k1 : Mod [] wr w') : CkJ W w' Bh Br k b p q bT x y c m u v s := ⟨h.i.same k1, h.rg.mod k1 (by simp)⟩
theorem r0 (h : CkJ W wr Bh Br k b p q bT x y c m u v s) : wr.cell? ⟨Br, 0, none⟩ = some (.int .i64 u) := h.rg.cell 0 (by omega)
theorem r1 (h : CkJ W wr Bh Br k b p q bT x y c m u v s) : wr.cell? ⟨Br, 1, none⟩ = some (.int .i64 v) := h.rg.cell 1 (by omega)
end CkJ

set_option maxRecDepth 100000 in
set_option maxHeartbeats 8000000 in
theorem clerkGives_walk (W : World) (t0 : Whole W) (s0 : Array Value) (c0 : CellsOk W [.int .i64, .int .i64, .int .i64, .int .i64] s0.toList)
    (s1 : Array Value) (c1 : CellsOk W [.int .i64, .int .i64] s1.toList)
    (a2 : Bool)
    (a3 : Int) (w3 : (Lit.int .i64 a3).wf = true) :
    Calls Tryd.prog 12 #[.agg s0, .agg s1, .bool a2, .int .i64 a3] W fun e w' => e = .returned (.bool true) ∧ Below W.heap.size W w' := by
  obtain ⟨x, y, c, m, rfl⟩ := hold_of c0
  obtain ⟨u, v, rfl⟩ := range_of c1
  clear c0 c1 w3
  have hw0 : 0 < W.heap.size := World.block_lt_of_cell? W _ t0.1
  obtain ⟨W1, hW1⟩ : ∃ W1, W1 = (W.alloc (.cells #[.int .i64 x, .int .i64 y, .int .i64 c, .int .i64 m] 31)).alloc (.cells #[.int .i64 u, .int .i64 v] 23) := ⟨_, rfl⟩
  have MW : Mod [] W W1 := by rw [hW1]; exact ((Mod.refl [] W).alloc _).alloc _
  have A1 : Arr W1 W.heap.size 31 4 (hcF x y c m) := by rw [hW1]; exact (hold_new W x y c m).mod ((Mod.refl [] _).alloc _) (by simp)
  have B1 : Arr W1 (W.heap.size + 1) 23 2 (rgF u v) := by
    have := Arr.new' (W.alloc (.cells #[.int .i64 x, .int .i64 y, .int .i64 c, .int .i64 m] 31)) #[.int .i64 u, .int .i64 v] 23 2 (rgF u v) rfl (fun i hi => by
      match i, hi with
      | 0, _ | 1, _ => rfl)
    rw [hW1]
    simpa using this
  have hs1 : W.heap.size + 1 < W1.heap.size := by rw [hW1]; simp
  have C0 := Lib.hid (shown20_calls W1 (t0.mod MW (by simp)))
  have HT := Lib.hid (t0.mod MW (by simp))
  have HW1 := Lib.hid hW1
  have HMW := Lib.hid MW
  have HA1 := Lib.hid A1
  have HB1 := Lib.hid B1
  clear t0 hW1 MW A1 B1
  go_enter Tryd.func12, Tryd.ntmps12
  go_wp2_with fail
  rw [← HW1.out]
  refine C0.out.mono ?_
  rintro e z0 ⟨rfl, n0⟩
  have HW0 := Lib.hid (HT.out.mod n0 (by simp))
  have HN0 := Lib.hid n0
  have s0 := n0.size
  clear n0
  go_wp2_with fail
  refine (ckNew_calls z0 4 0 0 HW0.out).mono ?_
  rintro e z1 ⟨k, b, p, q, bT, rfl, h1, n1, l1, l2, l3, l4, l5⟩
  have A2 := HA1.out.mod (HN0.out.trans n1) (by simp)
  have B2 := HB1.out.mod (HN0.out.trans n1) (by simp)
  have e0 := A2.cell 2 (by omega)
  have f0 := A2.free 2
  have o1 := A2.lt
  obtain ⟨Z, hZ⟩ : ∃ Z, Z = z1.setCell ⟨W.heap.size, 2, none⟩ (.int .i64 4) := ⟨_, rfl⟩
  have MZ : Mod [W.heap.size] z1 Z := by rw [hZ]; exact (Mod.refl _ _).setCell (by simp) _
  have A3 : Arr Z W.heap.size 31 4 (hcF x y 4 m) := by
    rw [hZ]
    exact (A2.set 2 _).congr fun j hj => by
      match j, hj with
      | 0, _ | 1, _ | 2, _ | 3, _ => rfl
  have IZ : CkI W Z W.heap.size k b p q bT x y 4 m (stNew 4 0 0) :=
    ⟨h1.mod MZ (by simp; omega) (by simp; omega) (by simp; omega) (by simp; omega) (by simp; omega) (by simp; omega), A3, ((HMW.out.trans HN0.out).trans n1).fresh MZ (fun z hz => .inr (by simp at hz; omega)), Nat.le_refl _, by omega, by omega, by omega, hw0⟩
  have JZ : CkJ W Z W.heap.size (W.heap.size + 1) k b p q bT x y 4 m u v (stNew 4 0 0) := ⟨IZ, B2.mod MZ (by simp)⟩
  have g0 := JZ.i.ck.c0
  have hkW : W.heap.size ≠ k := by omega
  have g9 := h1.c0
  have HI2 := Lib.hid JZ
  have OF := Lib.hid (oneF 4 0 0 0 100 (by omega) (by omega) (by omega) (by omega))
  clear h1 n1 A2 A3 MZ IZ JZ B2
  go_wp2_with fail
  rw [← hZ]
  clear hZ e0 f0 g9
  refine (ckAsk_calls Z k b p q bT _ 0 HI2.out.i.ck).mono ?_
  rintro e z3 ⟨rfl, h3, n3⟩
  rw [OF.out.e1, OF.out.v1]
  have HI3 := Lib.hid (HI2.out.next h3 n3 (by simp))
  clear h3 n3 g0 HI2
  go_wp2_with fail
  refine (ckGot_calls z3 k b p q bT _ 1 100 HI3.out.i.ck).mono ?_
  rintro e z4 ⟨rfl, h4, n4⟩
  rw [OF.out.g1]
  have J4 := HI3.out.next h4 n4 (by simp)
  obtain ⟨s2, hs2⟩ : ∃ s2, s2 = gotS (askS (stNew 4 0 0) 0) 1 100 := ⟨_, rfl⟩
  rw [← hs2] at J4
  have HTL := Lib.hid (show s2.till = 100 by rw [hs2, OF.out.t2]; decide)
  have HS2 := Lib.hid hs2
  have HI6 := Lib.hid J4
  have g0 := J4.i.h0
  have g1 := J4.i.h1
  have g2 := J4.i.h2
  have g3 := J4.i.h3
  clear h4 n4 J4 HI3 hs2 OF
  go_wp2_with fail
  refine (ckGiven_calls z4 k b p q bT s2 x y 4 m 1 HI6.out.i.ck).mono ?_
  rintro e z7 ⟨rfl, h7, n7⟩
  have HGE := Lib.hid (show givenE s2 x y 4 m 1 = putE (fun _ _ => 0) x y 4 m by
    unfold givenE
    rw [if_neg (by omega), if_neg (by omega), if_neg (by rw [HS2.out]; exact fun h => h rfl)]
    by_cases h : putE (fun _ _ => 0) x y 4 m ≠ 0
    · rw [if_pos h]
    · rw [if_neg h, if_neg (by rw [HS2.out]; show ¬ (1 : Int) ≤ 0; omega)]
      omega)
  have J7 := HI6.out.next h7 n7 (by simp)
  replace g0 := J7.i.h0
  replace g1 := J7.i.h1
  replace g2 := J7.i.h2
  replace g3 := J7.i.h3
  have y0 := J7.r0
  have y1 := J7.r1
  have o7 := J7.i.hd.lt
  have HI7 := Lib.hid J7
  rw [HGE.out]
  obtain ⟨E, hE⟩ : ∃ E, E = putE (fun _ _ => 0) x y 4 m := ⟨_, rfl⟩
  rw [← hE]
  have HE := Lib.hid hE
  clear h7 n7 J7 HI6 hE
  by_cases hE0 : E = 0
  rotate_left
  · have hbad := put_bad (i := 4) (x := x) (y := y) (m := m) (by omega) (fun h => hE0 (HE.out.trans h))
    have e1 : (E != 0) = true := by simpa using hE0
    clear hE0
    rcases hbad with hb | ⟨hb, hm1, hm2⟩
    · go_wp2_with (go_at_call 14; refine (blocks_calls _ _ _).mono ?_; rintro e w' ⟨rfl, rfl⟩; rw [hb])
      go_ret
      exact ⟨rfl, (HI7.out.i.md.alloc _).below (Nat.le_refl _) (by simp)⟩
    · have f1 : (m != 1) = true := by simpa using hm1
      have f2 : (m != 2) = true := by simpa using hm2
      clear hm1 hm2
      go_wp2_with (go_at_call 14; refine (blocks_calls _ _ _).mono ?_; rintro e w' ⟨rfl, rfl⟩; rw [hb])
      go_ret
      exact ⟨rfl, (HI7.out.i.md.alloc _).below (Nat.le_refl _) (by simp)⟩
  subst hE0
  obtain ⟨hblk, hm12⟩ := put_good (i := 4) HE.out.symm
  have HS3 : givenS s2 x y 4 m 1 = { s2 with t := putT s2.t x y 4 m, grant := 1, told := 0 } := by
    unfold givenS
    rw [if_pos (HGE.out.trans HE.out.symm)]
  have J8 := HI7.out
  rw [HS3] at J8
  have HT3 : putT s2.t x y 4 m = putT (fun _ _ => 0) x y 4 m := by rw [HS2.out]; rfl
  rw [HT3] at J8
  have HID : s2.id = 4 := by rw [HS2.out]; rfl
  obtain ⟨s3, hs3⟩ : ∃ s3 : St, s3 = { s2 with t := putT (fun _ _ => 0) x y 4 m, grant := 1, told := 0 } := ⟨_, rfl⟩
  rw [← hs3] at J8
  have HI8 := Lib.hid J8
  have hid3 : s3.id = 4 := by rw [hs3]; exact HID
  have ht3 : s3.t = putT (fun _ _ => 0) x y 4 m := by rw [hs3]
  have htl3 : s3.till = 100 := by rw [hs3]; exact HTL.out
  have GL := Lib.hid (gives_list hm12 hblk u v a2 s3 hid3)
  have GH := Lib.hid (gives_has hm12 hblk u v a2)
  have HID3 := Lib.hid hid3
  have HT3' := Lib.hid ht3
  have HTL3 := Lib.hid htl3
  have HMM := Lib.hid hm12
  clear HS3 J8 HT3 HID hs3 HI7 HGE HE hblk hm12 hid3 ht3 htl3
  go_wp2_with fail
  refine (ckGive_calls z7 k b p q bT s3 u v a2 HI8.out.i.ck).mono ?_
  rintro e z8 ⟨vg, rfl, ho, h8, n8⟩
  have J9 := HI8.out.next h8 n8 (by simp)
  rw [HT3'.out, HID3.out] at J9
  rw [HT3'.out] at ho
  replace g0 := J9.i.h0
  replace g1 := J9.i.h1
  replace g2 := J9.i.h2
  replace g3 := J9.i.h3
  replace y0 := J9.r0
  replace y1 := J9.r1
  have o8 := J9.i.hd.lt
  have o9 := J9.rg.lt
  have HI9 := Lib.hid J9
  have HO := Lib.hid ho
  clear h8 n8 J9 ho HI8
  go_wp2_with fail
  refine (meet_calls z8 x y u v).mono ?_
  rintro e z9 ⟨rfl, n9⟩
  have J10 := HI9.out.same n9
  have MM := (Mod.refl [] z9).alloc (.cells #[.int .i64 (max x u), .int .i64 (min y v)] 23)
  obtain ⟨Y, hY⟩ : ∃ Y, Y = z9.alloc (.cells #[.int .i64 (max x u), .int .i64 (min y v)] 23) := ⟨_, rfl⟩
  rw [← hY] at MM
  have J11 := J10.same MM
  have v0 : Y.cell? ⟨z9.heap.size, 0, none⟩ = some (.int .i64 (max x u)) := by rw [hY]; simp
  have v1 : Y.cell? ⟨z9.heap.size, 1, none⟩ = some (.int .i64 (min y v)) := by rw [hY]; simp
  have HI11 := Lib.hid J11
  have HO11 := Lib.hid (own_mod HO.out (n9.trans MM) (by simp))
  have HY := Lib.hid hY
  clear J10 J11 n9 MM hY HO HI9 g0 g1 g2 g3 y0 y1 o8 o9
  go_upto_region 12 with (fail)
  rw [← HY.out]
  have g0 := HI11.out.i.h0
  have g1 := HI11.out.i.h1
  have g2 := HI11.out.i.h2
  have g3 := HI11.out.i.h3
  have y0 := HI11.out.r0
  have y1 := HI11.out.r1
  obtain ⟨SOME, hSOME⟩ : ∃ S, S = gvSome x y m u v a2 := ⟨_, rfl⟩
  have HSM := Lib.hid hSOME
  rw [← hSOME] at GL
  obtain ⟨X1, hX1⟩ : ∃ X1, X1 = max x u := ⟨_, rfl⟩
  obtain ⟨X2, hX2⟩ : ∃ X2, X2 = min y v := ⟨_, rfl⟩
  have GS : SOME = (decide (X1 < X2) && (!a2 || m == 2)) := by rw [hSOME, hX1, hX2]; rfl
  have HGS := Lib.hid GS
  rw [← hX1] at v0 GL
  rw [← hX2] at v1 GL
  clear hSOME hX1 hX2 GS HSM HY
  go_cut [14] (fun s14 wx => s14 = .bool SOME ∧ wx = Y)
  case first =>
    by_cases e1 : X1 < X2
    · cases a2 with
      | false =>
        have hS : SOME = true := by rw [HGS.out]; simp [e1]
        go_wp2
        go_meet
        exact ⟨by rw [hS], rfl⟩
      | true =>
        have hS : SOME = (m == 2) := by rw [HGS.out]; simp [e1]
        have HS9 := Lib.hid hS
        clear hS
        go_wp2
        go_meet
        exact ⟨by rw [HS9.out], rfl⟩
    · have e1' : decide (X1 < X2) = false := by simpa using e1
      have hS : SOME = false := by rw [HGS.out]; simp [e1]
      have HS9 := Lib.hid hS
      clear hS
      go_wp2
      go_meet
      exact ⟨by rw [HS9.out], rfl⟩
  case rest =>
    obtain ⟨h14, hwx⟩ := hcut
    subst h14
    subst hwx
    have KD := Lib.hid (fun n => HI11.out.same ((Mod.refl [] wc).drewN n))
    go_wp2_with fail
    go_cut [101] (fun s101 wx => s101 = .bool false ∧ ∃ n, wx = wc.drewN n)
    case first =>
      cases SOME with
      | true =>
        obtain ⟨mx, mn, m', q1, q2, q3, q4⟩ := GL.out.1 rfl
        subst q1 q2 q3
        have ho := HO11.out
        rw [q4] at ho
        obtain ⟨g, cap, rfl, k1, k2, c0, c1, c2, c3⟩ := own_one (e := 31) (a := .int .i64 mx) (b := .int .i64 mn) (c := .int .i64 4) (d := .int .i64 m') ho
        have HK := Lib.hid KD
        clear ho q4 GL GH
        go_quiet (fail)
        go_wp2
        go_meet
        exact ⟨rfl, _, rfl⟩
      | false =>
        have ho := HO11.out
        rw [GL.out.2 rfl] at ho
        obtain ⟨p9, cap9, rfl⟩ := own_slice ho
        clear ho GL GH
        go_quiet (fail)
        go_wp2
        go_meet
        exact ⟨rfl, _, rfl⟩
    case rest =>
      obtain ⟨h101, n9, hwx⟩ := hcut
      subst h101
      have J12 := KD.out n9
      rw [← hwx] at J12
      clear KD HI11 HO11 GL
      have g0 := J12.i.h0
      have g1 := J12.i.h1
      have g2 := J12.i.h2
      have g3 := J12.i.h3
      have y0 := J12.r0
      have y1 := J12.r1
      have HI12 := Lib.hid J12
      obtain ⟨Y, hY⟩ : ∃ Y, Y = wc := ⟨_, rfl⟩
      rw [← hY] at g0 g1 g2 g3 y0 y1 HI12 ⊢
      clear J12 hwx hY
      obtain ⟨H, hH⟩ : ∃ H, H = gvH x y a3 := ⟨_, rfl⟩
      obtain ⟨G, hG⟩ : ∃ G, G = gvH u v a3 := ⟨_, rfl⟩
      have HH := Lib.hid hH
      have HG := Lib.hid hG
      clear hH hG
      go_upto_region 15 with (fail)
      go_cut [15] (fun s15 wx => s15 = .bool H ∧ wx = Y)
      case first =>
        by_cases e1 : x ≤ a3
        · by_cases e2 : a3 < y
          · have E := Lib.hid (show H = true by rw [HH.out]; simp [gvH, e1, e2])
            go_wp2
            go_meet
            exact ⟨by rw [E.out], rfl⟩
          · have e2' : decide (a3 < y) = false := by simpa using e2
            have E := Lib.hid (show H = false by rw [HH.out]; simp [gvH, e2])
            clear e2
            go_wp2
            go_meet
            exact ⟨by rw [E.out], rfl⟩
        · have e1' : decide (x ≤ a3) = false := by simpa using e1
          have E := Lib.hid (show H = false by rw [HH.out]; simp [gvH, e1])
          clear e1
          go_wp2
          go_meet
          exact ⟨by rw [E.out], rfl⟩
      case rest =>
        obtain ⟨h15, hwx⟩ := hcut
        subst h15
        subst hwx
        go_upto_region 16 with (fail)
        go_cut [16] (fun s16 wx => s16 = .bool G ∧ wx = wc)
        case first =>
          by_cases e1 : u ≤ a3
          · by_cases e2 : a3 < v
            · have E := Lib.hid (show G = true by rw [HG.out]; simp [gvH, e1, e2])
              go_wp2
              go_meet
              exact ⟨by rw [E.out], rfl⟩
            · have e2' : decide (a3 < v) = false := by simpa using e2
              have E := Lib.hid (show G = false by rw [HG.out]; simp [gvH, e2])
              clear e2
              go_wp2
              go_meet
              exact ⟨by rw [E.out], rfl⟩
          · have e1' : decide (u ≤ a3) = false := by simpa using e1
            have E := Lib.hid (show G = false by rw [HG.out]; simp [gvH, e1])
            clear e1
            go_wp2
            go_meet
            exact ⟨by rw [E.out], rfl⟩
        case rest =>
          obtain ⟨h16, hwx⟩ := hcut
          subst h16
          subst hwx
          go_upto_region 17 with (fail)
          obtain ⟨R, hR⟩ : ∃ R, R = (H && (!G || a2)) := ⟨_, rfl⟩
          obtain ⟨V, hV⟩ : ∃ V, V = ((H && m == 2) && !G) := ⟨_, rfl⟩
          have HR := Lib.hid hR
          have HV := Lib.hid hV
          clear hR hV
          go_cut [17] (fun s17 wx => s17 = .bool R ∧ wx = wc)
          case first =>
            cases H with
            | false =>
              have E := Lib.hid (show R = false by rw [HR.out]; rfl)
              go_wp2
              go_meet
              exact ⟨by rw [E.out], rfl⟩
            | true =>
              cases G with
              | false =>
                have E := Lib.hid (show R = true by rw [HR.out]; rfl)
                go_wp2
                go_meet
                exact ⟨by rw [E.out], rfl⟩
              | true =>
                have E := Lib.hid (show R = a2 by rw [HR.out]; cases a2 <;> rfl)
                go_wp2
                go_meet
                exact ⟨by rw [E.out], rfl⟩
          case rest =>
            obtain ⟨h17, hwx⟩ := hcut
            subst h17
            subst hwx
            go_upto_region 18 with (fail)
            go_cut [18] (fun s18 wx => s18 = .bool V ∧ wx = wc)
            case first =>
              cases H with
              | false =>
                have E := Lib.hid (show V = false by rw [HV.out]; rfl)
                go_wp2
                go_meet
                exact ⟨by rw [E.out], rfl⟩
              | true =>
                have em : (m == 2) = true ∨ (m == 2) = false := by cases (m == 2) <;> simp
                rcases em with em | em
                · have E := Lib.hid (show V = !G by rw [HV.out, em]; rfl)
                  go_wp2
                  go_meet
                  exact ⟨by rw [E.out], rfl⟩
                · have E := Lib.hid (show V = false by rw [HV.out, em]; rfl)
                  go_wp2
                  go_meet
                  exact ⟨by rw [E.out], rfl⟩
            case rest =>
              obtain ⟨h18, hwx⟩ := hcut
              subst h18
              subst hwx
              clear g0 g1 g2 g3 y0 y1
              obtain ⟨s4, hs4⟩ : ∃ s4 : St, s4 = ⟨4, s3.num, s3.slack, s3.a, s3.last, s3.got, s3.till, setT (putT (fun _ _ => 0) x y 4 m) 4 u v (giveG a2), s3.grant, s3.told⟩ := ⟨_, rfl⟩
              rw [← hs4] at HI12
              have hid4 : s4.id = 4 := by rw [hs4]
              have htl4 : s4.till = 100 := by rw [hs4]; exact HTL3.out
              have ht4 : s4.t = setT (putT (fun _ _ => 0) x y 4 m) 4 u v (giveG a2) := by rw [hs4]
              have HT4 := Lib.hid ht4
              have HID4 := Lib.hid hid4
              have HTL4 := Lib.hid htl4
              clear hs4 hid4 htl4 ht4
              by_cases b0 : a3 < 0
              · have E := Lib.hid (show mayE s4 5 a3 1 = 71 by unfold mayE; rw [if_pos b0])
                go_wp2_with (go_at_call 34; refine (ckMay_calls _ k b p q bT s4 5 a3 1 HI12.out.i.ck).mono ?_; rintro e w' ⟨rfl, n13⟩; rw [E.out])
                go_ret
                exact ⟨rfl, (HI12.out.i.md.trans n13).below (Nat.le_refl _) (by simp)⟩
              · have b0' : decide (a3 < 0) = false := by simpa using b0
                by_cases b1 : 256 ≤ a3
                · have E := Lib.hid (show mayE s4 5 a3 1 = 71 by unfold mayE; rw [if_neg b0, if_pos b1])
                  clear b0
                  go_wp2_with (go_at_call 34; refine (ckMay_calls _ k b p q bT s4 5 a3 1 HI12.out.i.ck).mono ?_; rintro e w' ⟨rfl, n13⟩; rw [E.out])
                  go_ret
                  exact ⟨rfl, (HI12.out.i.md.trans n13).below (Nat.le_refl _) (by simp)⟩
                · have b1' : decide (256 ≤ a3) = false := by simpa using b1
                  obtain ⟨u1, u2⟩ := GH.out a3 (by omega) (by omega)
                  rw [← HH.out, ← HG.out] at u1 u2
                  rw [← HR.out] at u1
                  rw [← HV.out] at u2
                  obtain ⟨E1, hE1⟩ : ∃ E1, E1 = mayE s4 5 a3 1 := ⟨_, rfl⟩
                  obtain ⟨E2, hE2⟩ : ∃ E2, E2 = mayE s4 5 a3 2 := ⟨_, rfl⟩
                  have f1 : (E1 == 0) = R := by
                    rw [hE1]
                    unfold mayE
                    rw [if_neg b0, if_neg b1, if_neg (by omega), if_neg (by rw [HTL4.out]; omega), HT4.out, HID4.out, u1]
                    cases R <;> rfl
                  have f2 : (E2 == 0) = V := by
                    rw [hE2]
                    unfold mayE
                    rw [if_neg b0, if_neg b1, if_neg (by omega), if_neg (by rw [HTL4.out]; omega), HT4.out, HID4.out, u2]
                    cases V <;> rfl
                  have HE1 := Lib.hid hE1
                  have HE2 := Lib.hid hE2
                  clear u1 u2 hE1 hE2 b0 b1
                  go_wp2_with fail
                  refine (ckMay_calls _ k b p q bT s4 5 a3 1 HI12.out.i.ck).mono ?_
                  rintro e z13 ⟨rfl, n13⟩
                  rw [← HE1.out]
                  have HI13 := Lib.hid (HI12.out.same n13)
                  clear n13
                  go_wp2_with fail
                  refine (ckMay_calls _ k b p q bT s4 5 a3 2 HI13.out.i.ck).mono ?_
                  rintro e z14 ⟨rfl, n14⟩
                  rw [← HE2.out]
                  have HI14 := Lib.hid (HI13.out.same n14)
                  clear n14
                  go_wp2
                  go_ret
                  exact ⟨rfl, HI14.out.i.md.below (Nat.le_refl _) (by simp)⟩
end Go.Proofs.YtkajedgghoboaaaDoor
