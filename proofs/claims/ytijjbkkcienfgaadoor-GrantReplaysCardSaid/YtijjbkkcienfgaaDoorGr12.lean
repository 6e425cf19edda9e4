/- Giving a hold: whether it clashes, what it comes to. No condition beyond what stands in each. -/
import Derived.Test.YtijjbkkcienfgaaDoorGr10
namespace Go.Proofs.YtijjbkkcienfgaaDoor
open Go.RowKit
set_option linter.unusedVariables false
set_option linter.unusedSimpArgs false
attribute [local go_sem ↓] Go.wp_at_zero Go.wp_at_succ

def GivePost (w : World) (B sv bT bB mB : Nat) (v : Value) (x : GS) (h : HoldT) (L : List HoldT) (e : Ending) (w' : World) : Prop :=
  (freeT x.t h L = false ∧ e = .returned (.tuple #[.int .i64 0, .int .i64 0, .bool true]) ∧ Mod [] w w') ∨
  (freeT x.t h L = true ∧ putEH x.t h ≠ 0 ∧ e = .returned (.tuple #[.int .i64 0, .int .i64 (putEH x.t h), .bool false]) ∧ Sv w' B sv bT bB mB v x ∧ Mod [bT] w w') ∨
  (freeT x.t h L = true ∧ putEH x.t h = 0 ∧ e = .returned (.tuple #[.int .i64 ((x.last + 1 : Nat) : Int), .int .i64 0, .bool false]) ∧ Sv w' B sv bT bB mB v { x with t := putTH x.t h, last := x.last + 1 } ∧ Mod [sv, bT] w w')
theorem give_clash {w : World} {B sv bT bB mB : Nat} {v : Value} {x : GS} {h : HoldT} {L : List HoldT} {w' : World} (hf : freeT x.t h L = false) (m : Mod [] w w') : GivePost w B sv bT bB mB v x h L (.returned (.tuple #[.int .i64 0, .int .i64 0, .bool true])) w' := .inl ⟨hf, rfl, m⟩
theorem give_err {w w1 w' : World} {B sv bT bB mB : Nat} {v : Value} {x : GS} {h : HoldT} {L : List HoldT} (hf : freeT x.t h L = true) (hS : Sv w1 B sv bT bB mB v x) (m : Mod [] w w1) (he : putEH x.t h ≠ 0) (hT : Tb w' bT (putTH x.t h)) (m2 : Mod [bT] w1 w') :
    GivePost w B sv bT bB mB v x h L (.returned (.tuple #[.int .i64 0, .int .i64 (putEH x.t h), .bool false])) w' := by
  have e : putTH x.t h = x.t := by unfold putTH putT; exact if_neg he
  rw [e] at hT
  obtain ⟨a1, a2, a3, a4, a5, a6, a7, a8, a9, a10⟩ := hS.apart
  refine .inr (.inl ⟨hf, he, rfl, ⟨hS.arr.mod m2 (by simpa using a1), hT, hS.bk.mod m2 (by simpa using Ne.symm a3), own_mod hS.wt m2 (fun k hk hs => ?_), hS.by'.mod m2 (by simpa using a5), Sv.whole_mod hS.wh m2 (by have := hS.lo; have := hS.l2; simp; omega), hS.inv, hS.lo, hS.l1, hS.l2, hS.l3, hS.l4⟩, m.nil.trans m2⟩)
  obtain rfl : k = bT := by simpa using hs
  exact a8 (by simpa using hk)
theorem give_ok {w w1 w2 : World} {B sv bT bB mB : Nat} {v : Value} {x : GS} {h : HoldT} {L : List HoldT} (hf : freeT x.t h L = true) (hS : Sv w1 B sv bT bB mB v x) (m : Mod [] w w1) (he : putEH x.t h = 0) (hT : Tb w2 bT (putTH x.t h)) (m2 : Mod [bT] w1 w2) (hl : x.last < maxS) (y z : Int) (hy : y = ((x.last + 1 : Nat) : Int)) (hz : z = y) :
    GivePost w B sv bT bB mB v x h L (.returned (.tuple #[.int .i64 z, .int .i64 0, .bool false])) (w2.setCell ⟨sv, 3, none⟩ (.int .i64 y)) := by
  subst hz hy
  obtain ⟨a1, a2, a3, a4, a5, a6, a7, a8, a9, a10⟩ := hS.apart
  have hwb : 1 ≠ bT := by have := hS.lo; have := hS.l2; omega
  have hws : 1 ≠ sv := by have := hS.lo; have := hS.l1; omega
  have A2 := hS.arr.mod m2 (by simpa using a1)
  have m3 : Mod [sv] w2 (w2.setCell ⟨sv, 3, none⟩ (.int .i64 ((x.last + 1 : Nat) : Int))) := (Mod.refl _ _).setCell (.inl (by simp)) _
  have A3 := (A2.set 3 (.int .i64 ((x.last + 1 : Nat) : Int))).congr (g := svF bT bB mB v (x.last + 1)) (fun i hi => by
    match i, hi with
    | 0, _ | 1, _ | 2, _ | 3, _ | 4, _ => rfl)
  have m23 : Mod [sv, bT] w1 (w2.setCell ⟨sv, 3, none⟩ (.int .i64 ((x.last + 1 : Nat) : Int))) := (m2.mono (by simp)).trans (m3.mono (by simp))
  have hI : GInv { x with t := putTH x.t h, last := x.last + 1 } := ⟨by show x.last + 1 ≤ maxS; omega, hS.inv.wl, hS.inv.len, hS.inv.one, hS.inv.by1⟩
  refine .inr (.inr ⟨hf, he, rfl, ⟨A3, hT.mod m3 (by simpa using Ne.symm a1), hS.bk.mod m23 (by simp; exact ⟨Ne.symm a2, Ne.symm a3⟩), own_mod hS.wt m23 (fun k hk hs => ?_), hS.by'.mod m23 (by simp; exact ⟨a4, a5⟩), Sv.whole_mod hS.wh m23 (by simp; exact ⟨hws, hwb⟩), hI, hS.lo, hS.l1, hS.l2, hS.l3, hS.l4⟩, m.nil.trans m23⟩)
  have hk' : k ∈ v.ownBlock.toList := by simpa using hk
  simp at hs
  rcases hs with rfl | rfl
  · exact a7 hk'
  · exact a8 hk'
/-- What the walk knows of a world behind giving's first step: the service, and the hold's own block. -/
structure GvW (w1 w' : World) (sv bT hb : Nat) (h : HoldT) : Prop where
  m : Mod [] w1 w'
  c0 : w'.cell? ⟨sv, 0, none⟩ = some (.pointer (some ⟨bT, 0, none⟩))
  y0 : w'.cell? ⟨hb, 0, none⟩ = some (.int .i64 h.1)
  y1 : w'.cell? ⟨hb, 1, none⟩ = some (.int .i64 h.2.1)
  y2 : w'.cell? ⟨hb, 2, none⟩ = some (.int .i64 h.2.2.1)
  y3 : w'.cell? ⟨hb, 3, none⟩ = some (.int .i64 h.2.2.2)
theorem GvW.next {w1 w' w'' : World} {sv bT hb : Nat} {h : HoldT} (k : GvW w1 w' sv bT hb h) (m : Mod [] w' w'') : GvW w1 w'' sv bT hb h :=
  ⟨k.m.trans m, m.cell' k.c0 (by simp), m.cell' k.y0 (by simp), m.cell' k.y1 (by simp), m.cell' k.y2 (by simp), m.cell' k.y3 (by simp)⟩
theorem own_len {w : World} {base e sz n : Nat} {v : Value} {xs : List Value} (h : w.ownsRow base e sz v n xs) : ∃ p cap, v = .slice p n cap := by
  obtain ⟨_, h1 | ⟨g, cap, cur, e1, _⟩⟩ := h
  · exact ⟨none, 0, by rw [h1.1]; cases h1.2; rfl⟩
  · exact ⟨_, _, e1⟩
set_option maxRecDepth 100000 in
set_option maxHeartbeats 4000000 in
theorem give_calls (w : World) (B sv bT bB mB : Nat) (v : Value) (x : GS) (h : HoldT) (hh : h.2.2.2 ≤ 2) (lv : Value) (L : List HoldT) (hL : ∀ y ∈ L, y.2.2.2 ≤ 2) (hV : Hs w lv L) (hS : Sv w B sv bT bB mB v x) (hl : x.last < maxS) :
    Calls Tryd.prog 117 #[.pointer (some ⟨sv, 0, none⟩), .agg #[.int .i64 h.1, .int .i64 h.2.1, .int .i64 h.2.2.1, .int .i64 h.2.2.2], lv] w (GivePost w B sv bT bB mB v x h L) := by
  obtain ⟨w1, hw1⟩ : ∃ w1, w1 = w.alloc (.cells #[.int .i64 h.1, .int .i64 h.2.1, .int .i64 h.2.2.1, .int .i64 h.2.2.2] 39) := ⟨_, rfl⟩
  have m1 : Mod [] w w1 := by rw [hw1]; exact (Mod.refl _ _).alloc _
  have A1 : Arr w1 w.heap.size 39 4 (holdF h) := by rw [hw1]; exact hold_new w h
  have hS1 := hS.mod0 m1.drew
  have C := Lib.hid (hany_calls w1.drew lv L 132 #[.pointer (some ⟨w.heap.size, 0, none⟩)] (fun o => clashB o h) (hV.same m1.drew) (enters_of Tryd.func132 (by kernel_rfl) rfl) (fun y hy w' m => give1_calls w' w.heap.size h y ((A1.drew).mod m (by simp)) hh (hL y hy)))
  have y0 := A1.cell 0 (by omega)
  have y1 := A1.cell 1 (by omega)
  have y2 := A1.cell 2 (by omega)
  have y3 := A1.cell 3 (by omega)
  simp only [holdF, if_true, if_false, Nat.reduceEqDiff] at y0 y1 y2 y3
  have G1 := Lib.hid (show GvW w1.drew w1.drew sv bT w.heap.size h from ⟨Mod.refl _ _, hS1.c0, y0, y1, y2, y3⟩)
  have AG := Lib.hid (fun w' (m : Mod [] w1.drew w') => spAgainst_calls w' bT x.t h.1 h.2.1 h.2.2.1 h.2.2.2 (hS1.mod0 m).tb)
  have PU := Lib.hid (fun w' (m : Mod [] w1.drew w') => spPut_calls w' bT x.t h.1 h.2.1 h.2.2.1 h.2.2.2 (hS1.mod0 m).tb (hS1.mod0 m).wh (by have := hS.lo; have := hS.l2; omega))
  have HS1 := Lib.hid hS1
  have HW1 := Lib.hid hw1
  have M1 := Lib.hid m1.drew
  have HL := Lib.hid hl
  have F : freeT x.t h L = (!(L.any fun o => clashB o h) && decide ((someL x.t h.1 h.2.1 (pAg h.2.2.1 h.2.2.2)).length = 0)) := rfl
  generalize hbc : (L.any fun o => clashB o h) = bc at *
  generalize hlg : someL x.t h.1 h.2.1 (pAg h.2.2.1 h.2.2.2) = lg at *
  clear y0 y1 y2 y3 hw1 m1 A1 hS hV hbc hL hh hl hS1 hlg
  cases bc with
  | true =>
    have F0 := Lib.hid (show freeT x.t h L = false by rw [F]; rfl)
    clear F AG PU
    go_enter Tryd.func117, Tryd.ntmps117
    go_wp2
    rw [← HW1.out] at *
    first
      | (go_region_with (first
        | (go_at_call 115; (with_reducible refine C.out.mono ?_); rintro e w2 ⟨rfl, m2⟩)))
      | fail
    all_goals
      go_wp2
      go_ret3
      exact give_clash F0.out (M1.out.trans m2)
  | false =>
    by_cases hz : lg.length = 0
    rotate_left
    · have F0 := Lib.hid (show freeT x.t h L = false by rw [F]; simp [hz])
      have hz1 : (0 : Int) < (lg.length : Int) := by omega
      clear F PU
      go_enter Tryd.func117, Tryd.ntmps117
      go_wp2
      rw [← HW1.out] at *
      first
        | (go_region_with (first
          | (go_at_call 115; (with_reducible refine C.out.mono ?_); rintro e w2 ⟨rfl, m2⟩; obtain ⟨k1, k2, k3, k4, k5, k6⟩ := G1.out.next m2)
          | (go_at_call 118; (with_reducible refine (AG.out _ k1).mono ?_); rintro e w3 ⟨v3, rfl, o3, m3⟩; obtain ⟨p3, cap3, rfl⟩ := own_len o3)))
        | fail
      all_goals
        go_wp2
        go_ret3
        exact give_clash F0.out ((M1.out.trans k1).trans m3)
    · have F0 := Lib.hid (show freeT x.t h L = true by rw [F]; simp [hz])
      have hz1 : ¬ (0 : Int) < (lg.length : Int) := by omega
      clear F
      obtain ⟨pe, hpe⟩ : ∃ pe, pe = putEH x.t h := ⟨_, rfl⟩
      have HPE := Lib.hid hpe
      have PU := Lib.hid (fun w' (m : Mod [] w1.drew w') => (PU.out w' m).mono (R' := fun e w'' => e = .returned (.int .i64 pe) ∧ Tb w'' bT (putTH x.t h) ∧ Mod [bT] w' w'') (fun e w'' k => by
        obtain ⟨k1, k2, k3⟩ := k
        exact ⟨by rw [k1, hpe]; rfl, k2, k3⟩))
      have hbs : sv ≠ bT := HS1.out.apart.1
      have hlt : bT < w1.drew.heap.size := HS1.out.tb.lt
      clear hpe
      by_cases hp : pe = 0
      rotate_left
      · have hp1 : (pe == 0) = false := by simpa using hp
        have hp2 : (pe != 0) = true := by simpa using hp
        have HP := Lib.hid hp
        clear hp
        go_enter Tryd.func117, Tryd.ntmps117
        go_wp2
        rw [← HW1.out] at *
        go_cut [23] (fun s wx => s = .bool false ∧ GvW w1.drew wx sv bT w.heap.size h)
        case first =>
          first
            | (go_region_with (first
              | (go_at_call 115; (with_reducible refine C.out.mono ?_); rintro e w2 ⟨rfl, m2⟩; obtain ⟨k1, k2, k3, k4, k5, k6⟩ := G1.out.next m2)
              | (go_at_call 118; (with_reducible refine (AG.out _ k1).mono ?_); rintro e w3 ⟨v3, rfl, o3, m3⟩; obtain ⟨p3, cap3, rfl⟩ := own_len o3)))
            | fail
          all_goals
            go_wp2
            go_meet
            exact ⟨rfl, (G1.out.next m2).next m3⟩
        case rest =>
          obtain ⟨rfl, hk⟩ := hcut
          have G3 := Lib.hid (hk.next (Mod.refl [] wc).drew)
          clear hk
          obtain ⟨k1, k2, k3, k4, k5, k6⟩ := G3.out
          go_wp2
          first
            | (go_region_with (first
              | (go_at_call 134; (with_reducible refine (PU.out _ k1).mono ?_); rintro e w4 ⟨rfl, t4, m4⟩)))
            | fail
          all_goals
            go_wp2
            go_ret3
            rw [HPE.out]
            exact give_err F0.out (HS1.out.mod0 G3.out.m) (M1.out.trans G3.out.m) (by rw [← HPE.out]; exact HP.out) t4 m4
      · subst hp
        obtain ⟨ln, hln⟩ : ∃ ln, ln = x.last := ⟨_, rfl⟩
        have HLN := Lib.hid hln
        have hl9 : ln < 1099511627776 := by rw [hln]; exact HL.out
        clear hln
        go_enter Tryd.func117, Tryd.ntmps117
        go_wp2
        rw [← HW1.out] at *
        go_cut [23] (fun s wx => s = .bool false ∧ GvW w1.drew wx sv bT w.heap.size h)
        case first =>
          first
            | (go_region_with (first
              | (go_at_call 115; (with_reducible refine C.out.mono ?_); rintro e w2 ⟨rfl, m2⟩; obtain ⟨k1, k2, k3, k4, k5, k6⟩ := G1.out.next m2)
              | (go_at_call 118; (with_reducible refine (AG.out _ k1).mono ?_); rintro e w3 ⟨v3, rfl, o3, m3⟩; obtain ⟨p3, cap3, rfl⟩ := own_len o3)))
            | fail
          all_goals
            go_wp2
            go_meet
            exact ⟨rfl, (G1.out.next m2).next m3⟩
        case rest =>
          obtain ⟨rfl, hk⟩ := hcut
          have G3 := Lib.hid (hk.next (Mod.refl [] wc).drew)
          clear hk
          obtain ⟨k1, k2, k3, k4, k5, k6⟩ := G3.out
          go_wp2
          first
            | (go_region_with (first
              | (go_at_call 134; (with_reducible refine (PU.out _ k1).mono ?_); rintro e w4 ⟨rfl, t4, m4⟩)))
            | fail
          all_goals
            have c3 := (HS1.out.mod0 G3.out.m).c3
            rw [← HLN.out] at c3
            replace c3 := m4.cell' c3 (by simpa using hbs)
            have f3 : w4.frozen? ⟨sv, 3, none⟩ = false := ((HS1.out.mod0 G3.out.m).arr.mod m4 (by simpa using hbs)).free 3
            go_wp2
            go_ret3
            refine give_ok F0.out (HS1.out.mod0 G3.out.m) (M1.out.trans G3.out.m) HPE.out.symm t4 m4 HL.out _ _ ?_ ?_
            · rw [← HLN.out]; go_num
            · rfl
end Go.Proofs.YtijjbkkcienfgaaDoor
