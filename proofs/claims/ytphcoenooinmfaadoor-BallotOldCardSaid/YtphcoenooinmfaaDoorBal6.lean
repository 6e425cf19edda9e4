/- Package ballot's acceptor: Accept. No further condition. -/
import Derived.Test.YtphcoenooinmfaaDoorBal5
namespace Go.Proofs.YtphcoenooinmfaaDoor
open Go.RowKit
set_option linter.unusedVariables false
set_option linter.unusedSimpArgs false
attribute [local go_sem ↓] Go.wp_at_zero Go.wp_at_succ

def accE (p : Int) (x : VoteT) : Int := if x.s < 0 ∨ 4096 ≤ x.s ∨ balB x.b = false then 1 else if 1024 < x.v.size then 11 else if x.b < p then 5 else 0
def accP (p : Int) (x : VoteT) : Int := if accE p x = 0 then x.b else p
def accG (p : Int) (g : Nat → Option VoteT) (x : VoteT) : Nat → Option VoteT := if accE p x = 0 then fun i => if (i : Int) = x.s then some x else g i else g
def AccPost (w : World) (a : Nat) (p : Int) (g : Nat → Option VoteT) (x : VoteT) (r : Ending) (w' : World) : Prop :=
  ∃ f', r = .returned (.int .i64 (accE p x)) ∧ AccP w' a (accP p x) (accG p g x) f' ∧ Mod [a] w w'
theorem AccPost.no {w w' : World} {a : Nat} {p : Int} {g : Nat → Option VoteT} {f : Nat → Nat} {x : VoteT} {e : Int} (h : AccP w a p g f) (he : accE p x = e) (hne : e ≠ 0) (m : Mod [] w w') : AccPost w a p g x (.returned (.int .i64 e)) w' := by
  refine ⟨f, by rw [he], ?_, m.nil⟩
  unfold accP accG
  rw [he, if_neg hne, if_neg hne]
  exact h.mod m
theorem AccPost.yes {w w' : World} {a : Nat} {p : Int} {g : Nat → Option VoteT} {f : Nat → Nat} {x : VoteT} {s c : Nat} (h : AccP w a p g f) (he : accE p x = 0) (hs : x.s = (s : Int)) (hs2 : s < 4096) (m : Mod [] w w') (hc : Arr w' c 33 3 x.cF) (hca : c ≠ a) :
    AccPost w a p g x (.returned (.int .i64 0)) ((w'.setCell ⟨a, 0, none⟩ (.int .i64 x.b)).setCell ⟨a, 1 + s, none⟩ (.pointer (some ⟨c, 0, none⟩))) := by
  have M : Mod [a] w' ((w'.setCell ⟨a, 0, none⟩ (.int .i64 x.b)).setCell ⟨a, 1 + s, none⟩ (.pointer (some ⟨c, 0, none⟩))) := ((Mod.refl _ _).setCell (.inl (by simp)) _).setCell (.inl (by simp)) _
  have h' := h.mod m
  refine ⟨fun i => if i = s then c else f i, by rw [he], ?_, m.nil.trans M⟩
  unfold accP accG
  rw [he, if_pos rfl, if_pos rfl]
  refine ⟨((h'.arr.set 0 _).set (1 + s) _).congr fun i hi => ?_, fun i y hi hy => ?_⟩
  · unfold accF ptrV
    by_cases e0 : i = 0
    · subst e0
      simp [show ¬ 0 = 1 + s by omega]
    · by_cases e1 : i = 1 + s
      · subst e1
        simp [hs]
      · have e2 : ¬ i - 1 = s := by omega
        have e3 : ¬ ((i - 1 : Nat) : Int) = x.s := by rw [hs]; omega
        simp only [e0, e1, e2, e3, if_false]
  · by_cases e : i = s
    · subst e
      rw [if_pos hs.symm] at hy
      cases hy
      simp only [if_true]
      exact ⟨hs, hca, hc.mod M (by simpa using hca)⟩
    · have e3 : ¬ (i : Int) = x.s := by rw [hs]; omega
      rw [if_neg e3] at hy
      obtain ⟨v1, v2, v3⟩ := h'.vote i y hi hy
      simp only [e, if_false]
      exact ⟨v1, v2, v3.mod M (by simpa using v2)⟩
theorem AccPost.drew {w w' : World} {a : Nat} {p : Int} {g : Nat → Option VoteT} {x : VoteT} {r : Ending} (h : AccPost w a p g x r w') : AccPost w a p g x r w'.drew := by
  obtain ⟨f', h1, h2, h3⟩ := h
  exact ⟨f', h1, h2.mod ((Mod.refl _ _).drew), h3.drew⟩
set_option maxRecDepth 100000 in
set_option maxHeartbeats 2000000 in
theorem accept_calls (w : World) (a : Nat) (p : Int) (g : Nat → Option VoteT) (f : Nat → Nat) (x : VoteT) (h : AccP w a p g f) (hx : x.v.size ≤ 9223372036854775807) :
    Calls Tryd.prog 25 #[.pointer (some ⟨a, 0, none⟩), .agg #[.int .i64 x.s, .int .i64 x.b, .string x.v]] w (AccPost w a p g x) := by
  have HP := Lib.hid h
  obtain ⟨w1, hw1⟩ : ∃ w1, w1 = w.alloc (.cells #[.int .i64 x.s, .int .i64 x.b, .string x.v] 33) := ⟨_, rfl⟩
  have m1 : Mod [] w w1 := by rw [hw1]; exact (Mod.refl _ _).alloc _
  have HC : Hid (Arr w1 w.heap.size 33 3 x.cF) := Lib.hid (by rw [hw1]; exact vote_new w _ x)
  have hal : a < w.heap.size := h.arr.lt
  have M1 := Lib.hid m1
  have HW1 := Lib.hid hw1
  have h1 := h.mod m1
  have q0 := h1.c0
  have p0 := h.c0
  have f0 := h1.arr.free 0
  have g0 := h.arr.free 0
  have hne : a ≠ w.heap.size := by omega
  have hne' : w.heap.size ≠ a := by omega
  have cc0 := HC.out.cell 0 (by omega)
  have cc1 := HC.out.cell 1 (by omega)
  have cc2 := HC.out.cell 2 (by omega)
  unfold VoteT.cF at cc0 cc1 cc2
  simp only [if_true, if_false, Nat.reduceEqDiff] at cc0 cc1 cc2
  rw [hw1] at q0 f0 cc0 cc1 cc2
  have NO := Lib.hid (fun e (he : accE p x = e) (hne : e ≠ 0) w' (m : Mod [] w w') => AccPost.no h he hne m)
  have B := fun t (ht : balB x.b = t) (w : World) => Lib.hid (ballot_calls w x.b t ht)
  by_cases hs0 : x.s < 0
  · have e1 : accE p x = 1 := by unfold accE; rw [if_pos (.inl hs0)]
    have F := Lib.hid (NO.out 1 e1 (by decide) w1 M1.out)
    clear h hw1 m1 h1 e1 NO B HC HP
    go_enter Tryd.func25, Tryd.ntmps25
    go_wp2
    rw [← HW1.out]
    go_ret
    exact F.out
  by_cases hs1 : 4096 ≤ x.s
  · have e1 : accE p x = 1 := by unfold accE; rw [if_pos (.inr (.inl hs1))]
    have F := Lib.hid (NO.out 1 e1 (by decide) w1 M1.out)
    clear h hw1 m1 h1 e1 NO B HC HP
    go_enter Tryd.func25, Tryd.ntmps25
    go_wp2
    rw [← HW1.out]
    go_ret
    exact F.out
  cases hb : balB x.b with
  | false =>
    have e1 : accE p x = 1 := by unfold accE; rw [if_pos (.inr (.inr hb))]
    have F := Lib.hid (NO.out 1 e1 (by decide) w1 M1.out)
    have B1 := B false hb w1
    clear h hw1 m1 h1 e1 NO B HC HP hb
    go_enter Tryd.func25, Tryd.ntmps25
    go_wp2_with fail
    rw [← HW1.out]
    refine B1.out.mono ?_
    rintro r w2 ⟨rfl, rfl⟩
    go_wp2
    go_ret
    exact F.out
  | true =>
    have B1 := B true hb w1
    have hno : ¬ (x.s < 0 ∨ 4096 ≤ x.s ∨ balB x.b = false) := by rw [hb]; simp; omega
    by_cases hv : 1024 < x.v.size
    · have e1 : accE p x = 11 := by unfold accE; rw [if_neg hno, if_pos hv]
      have F := Lib.hid (NO.out 11 e1 (by decide) w1 M1.out)
      have hvi : (1024 : Int) < (x.v.size : Int) := by omega
      clear h h1 e1 NO B HC HP hb hno m1 hw1
      go_enter Tryd.func25, Tryd.ntmps25
      go_wp2_with fail
      rw [← HW1.out]
      refine B1.out.mono ?_
      rintro r w2 ⟨rfl, rfl⟩
      rw [← HW1.out] at cc0 cc1 cc2
      go_wp2
      go_ret
      exact F.out
    · have hvi : ¬ (1024 : Int) < (x.v.size : Int) := by omega
      by_cases hlt : x.b < p
      · have e1 : accE p x = 5 := by unfold accE; rw [if_neg hno, if_neg hv, if_pos hlt]
        have F := Lib.hid (NO.out 5 e1 (by decide) w1.drew M1.out.drew)
        clear h h1 e1 NO B HC HP hb hno m1 hw1
        go_enter Tryd.func25, Tryd.ntmps25
        go_wp2_with fail
        rw [← HW1.out]
        refine B1.out.mono ?_
        rintro r w2 ⟨rfl, rfl⟩
        rw [← HW1.out] at cc0 cc1 cc2 q0
        go_wp2
        (try go_region)
        (try go_wp2)
        go_ret
        exact F.out
      · have e1 : accE p x = 0 := by unfold accE; rw [if_neg hno, if_neg hv, if_neg hlt]
        obtain ⟨sn, hsn⟩ : ∃ sn : Nat, x.s = (sn : Int) := ⟨x.s.toNat, by omega⟩
        have hs2 : sn < 4096 := by omega
        have F := Lib.hid ((AccPost.yes h e1 hsn hs2 M1.out HC.out hne').drew.drew)
        have k1 := h1.arr.cell (1 + sn) (by omega)
        have f1 := h1.arr.free (1 + sn)
        have k0 := h1.c0
        have f2 := h1.arr.free 0
        have i0 : (0 : Int) ≤ (sn : Int) := by omega
        have i1 : (sn : Int) < 4096 := by omega
        have hbp : ¬ x.b < p := hlt
        obtain ⟨xs, xb, xv⟩ := x
        simp only at hsn cc0 cc1 cc2 hlt hvi B1 F HW1 hs0 hs1
        subst hsn
        generalize accF p g f (1 + sn) = pv at *
        clear h h1 e1 NO B HC HP hb hno m1 hw1 q0 f0
        go_enter Tryd.func25, Tryd.ntmps25
        go_wp2_with fail
        rw [← HW1.out]
        refine B1.out.mono ?_
        rintro r w2 ⟨rfl, rfl⟩
        rw [← HW1.out] at cc0 cc1 cc2
        go_wp2
        (try go_region)
        (try go_wp2)
        (try go_region)
        (try go_wp2)
        go_ret
        exact F.out
end Go.Proofs.YtphcoenooinmfaaDoor
