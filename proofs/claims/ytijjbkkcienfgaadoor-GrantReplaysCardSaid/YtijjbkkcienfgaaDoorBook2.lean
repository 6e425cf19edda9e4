/- What the calls of the document's book of leases, and the making of both books, come to. No condition beyond what stands in each. -/
import Derived.Test.YtijjbkkcienfgaaDoorProg
import Derived.Test.YtijjbkkcienfgaaDoorLib
import Derived.Test.YtijjbkkcienfgaaDoorBook
import Derived.Test.YtijjbkkcienfgaaDoorTime16
import Derived.Laws.MakeOwn
namespace Go.Proofs.YtijjbkkcienfgaaDoor
open Go.RowKit
set_option linter.unusedVariables false
set_option linter.unusedSimpArgs false
attribute [local go_sem ↓] Go.wp_at_zero Go.wp_at_succ

def u0 : Nat → Int := fun _ => -1
def s0 : Nat → Int := fun _ => 0
def d0 : Nat → Bool := fun _ => false
def uk (k : Nat) : Nat → Int := fun i => if i < k then -1 else 0
theorem uk_succ (k : Nat) : upd (uk k) k (-1) = uk (k + 1) := by
  funext i
  unfold upd uk
  by_cases e : i = k
  · subst e; simp
  · have : (i < k + 1) = (i < k) := by simp; omega
    simp [e, this]

set_option maxHeartbeats 1000000 in
theorem bkNew_calls (w : World) :
    Calls Tryd.prog 36 #[] w fun e w' => e = .returned (.pointer (some ⟨w.heap.size, 0, none⟩)) ∧ Bk w' w.heap.size u0 s0 d0 ∧ Mod [] w w' := by
  go_enter Tryd.func36, Tryd.ntmps36
  go_wp2
  go_loopw [5] (fun i wr => ∃ k : Nat, k ≤ 8 ∧ i = .int .i64 k ∧ Bk wr w.heap.size (uk k) s0 d0 ∧ Mod [] w wr) (fun i _ => 8 - (intOf i).toNat)
  case atStart =>
    refine ⟨0, by omega, rfl, ⟨Arr.new' _ _ _ 24 _ rfl ?_, fun i => by unfold uk; split <;> omega⟩, (Mod.refl _ _).alloc _⟩
    intro i hi
    match i, hi with
    | 0, _ | 1, _ | 2, _ | 3, _ | 4, _ | 5, _ | 6, _ | 7, _ | 8, _ | 9, _ | 10, _ | 11, _ | 12, _ | 13, _ | 14, _ | 15, _ | 16, _ | 17, _ | 18, _ | 19, _ | 20, _ | 21, _ | 22, _ | 23, _ => simp [bkF, uk, s0, d0]
    | n + 24, h => exact absurd h (by omega)
  case round =>
    obtain ⟨k, hk, rfl, hB, hm⟩ := hrel
    by_cases hlt : k < 8
    · have cu := hB.cu k hlt
      have fr := hB.arr.free (k * 3)
      have hk1 : (k : Int) < 8 := by omega
      have hB1 := hB.setU k (-1) (by omega)
      rw [uk_succ] at hB1
      have H1 := Lib.hid hB1
      clear hB1
      go_wp2
      go_roundw
      case rel => exact ⟨k + 1, by omega, by go_num, H1.out, hm.setCell (by simp) _⟩
      case measure => simp [intOf]; omega
    · obtain rfl : k = 8 := by omega
      have hB1 : Bk wr w.heap.size u0 s0 d0 := ⟨hB.arr.congr fun j hj => by
        have : j / 3 < 8 := by omega
        simp [bkF, uk, u0, this], fun i => by unfold u0; omega⟩
      go_wp2
      go_ret
      exact ⟨rfl, hB1, hm⟩

def rbH (gT gS gD cap : Nat) (j : Nat) : Value := if j = 0 then .slice (some ⟨gT, 0, none⟩) 8 cap else if j = 1 then .slice (some ⟨gS, 0, none⟩) 8 8 else .slice (some ⟨gD, 0, none⟩) 8 8
/-- The document's book at block b. -/
structure RBk (w : World) (b gT gS gD cap : Nat) (u s : Nat → Int) (d : Nat → Bool) : Prop where
  arr : Arr w b 109 3 (rbH gT gS gD cap)
  rT : Arr w gT 3 8 (fun i => .int .i64 (u i))
  rS : Arr w gS 3 8 (fun i => .int .i64 (s i))
  rD : Arr w gD 4 8 (fun i => .bool (d i))
  n1 : b ≠ gT
  n2 : b ≠ gS
  n3 : b ≠ gD
  n4 : gT ≠ gS
  n5 : gT ≠ gD
  n6 : gS ≠ gD
  hc : 8 ≤ cap
  ub : ∀ i, -1 ≤ u i ∧ u i ≤ 1099511627776
namespace RBk
variable {w w' : World} {b gT gS gD cap : Nat} {u s : Nat → Int} {d : Nat → Bool}
theorem mod {S : List Nat} (h : RBk w b gT gS gD cap u s d) (m : Mod S w w') (h1 : b ∉ S) (h2 : gT ∉ S) (h3 : gS ∉ S) (h4 : gD ∉ S) : RBk w' b gT gS gD cap u s d :=
  ⟨h.arr.mod m h1, h.rT.mod m h2, h.rS.mod m h3, h.rD.mod m h4, h.n1, h.n2, h.n3, h.n4, h.n5, h.n6, h.hc, h.ub⟩
theorem drew (h : RBk w b gT gS gD cap u s d) : RBk w.drew b gT gS gD cap u s d := h.mod ((Mod.refl [] _).drew) (by simp) (by simp) (by simp) (by simp)
theorem drewN (h : RBk w b gT gS gD cap u s d) (k : Nat) : RBk (w.drewN k) b gT gS gD cap u s d := h.mod ((Mod.refl [] _).drewN k) (by simp) (by simp) (by simp) (by simp)
theorem alloc (h : RBk w b gT gS gD cap u s d) (o : Obj) : RBk (w.alloc o) b gT gS gD cap u s d := h.mod ((Mod.refl [] _).alloc o) (by simp) (by simp) (by simp) (by simp)
theorem c0 (h : RBk w b gT gS gD cap u s d) : w.cell? ⟨b, 0, none⟩ = some (.slice (some ⟨gT, 0, none⟩) 8 cap) := h.arr.cell 0 (by omega)
theorem c1 (h : RBk w b gT gS gD cap u s d) : w.cell? ⟨b, 1, none⟩ = some (.slice (some ⟨gS, 0, none⟩) 8 8) := h.arr.cell 1 (by omega)
theorem c2 (h : RBk w b gT gS gD cap u s d) : w.cell? ⟨b, 2, none⟩ = some (.slice (some ⟨gD, 0, none⟩) 8 8) := h.arr.cell 2 (by omega)
theorem upd_arr {α : Type} {f : Nat → α} {E : α → Value} {g e : Nat} (h : Arr w g e 8 (fun i => E (f i))) (i : Nat) (v : α) : Arr (w.setCell ⟨g, i, none⟩ (E v)) g e 8 (fun j => E (upd f i v j)) :=
  (h.set i (E v)).congr fun j _ => by
    unfold upd
    by_cases e : j = i <;> simp [e]
theorem setU (h : RBk w b gT gS gD cap u s d) (i : Nat) (v : Int) (hv : -1 ≤ v ∧ v ≤ 1099511627776) : RBk (w.setCell ⟨gT, i, none⟩ (.int .i64 v)) b gT gS gD cap (upd u i v) s d :=
  ⟨h.arr.other (fun e => h.n1 e.symm) _, upd_arr (E := Value.int .i64) h.rT i v, h.rS.other h.n4 _, h.rD.other h.n5 _, h.n1, h.n2, h.n3, h.n4, h.n5, h.n6, h.hc, fun j => by
    have := h.ub j
    unfold upd
    split
    · exact hv
    · exact this⟩
theorem setS (h : RBk w b gT gS gD cap u s d) (i : Nat) (v : Int) : RBk (w.setCell ⟨gS, i, none⟩ (.int .i64 v)) b gT gS gD cap u (upd s i v) d :=
  ⟨h.arr.other (fun e => h.n2 e.symm) _, h.rT.other (fun e => h.n4 e.symm) _, upd_arr (E := Value.int .i64) h.rS i v, h.rD.other h.n6 _, h.n1, h.n2, h.n3, h.n4, h.n5, h.n6, h.hc, h.ub⟩
theorem setD (h : RBk w b gT gS gD cap u s d) (i : Nat) (v : Bool) : RBk (w.setCell ⟨gD, i, none⟩ (.bool v)) b gT gS gD cap u s (upd d i v) :=
  ⟨h.arr.other (fun e => h.n3 e.symm) _, h.rT.other (fun e => h.n5 e.symm) _, h.rS.other (fun e => h.n6 e.symm) _, upd_arr (E := Value.bool) h.rD i v, h.n1, h.n2, h.n3, h.n4, h.n5, h.n6, h.hc, h.ub⟩
end RBk

theorem client16_calls (w : World) (c : Int) :
    Calls Tryd.prog 54 #[.int .i64 c] w fun e w' => e = .returned (.bool (inC c)) ∧ w = w' := by
  by_cases h0 : 0 ≤ c
  · have E := Lib.hid (show inC c = decide (c < 8) by simp [inC, h0])
    go_enter Tryd.func54, Tryd.ntmps54
    go_wp2
    all_goals go_ret
    all_goals exact ⟨by rw [E.out]; simp, rfl⟩
  · have E := Lib.hid (show inC c = false by simp [inC, h0])
    have hd : decide (0 ≤ c) = false := by simpa using h0
    go_enter Tryd.func54, Tryd.ntmps54
    go_wp2
    go_ret
    exact ⟨by rw [E.out]; rfl, rfl⟩
theorem rbDead_calls (w : World) (b gT gS gD cap : Nat) (u s : Nat → Int) (d : Nat → Bool) (c : Int) (h : RBk w b gT gS gD cap u s d) :
    Calls Tryd.prog 26 #[.pointer (some ⟨b, 0, none⟩), .int .i64 c] w fun e w' => e = .returned (.bool (deadV d c)) ∧ w = w' := by
  by_cases hc : inC c = true
  · have E := Lib.hid (show deadV d c = d c.toNat by simp [deadV, hc])
    obtain ⟨k, rfl, hk⟩ := inC_nat hc
    rw [Int.toNat_natCast] at E
    have c2 := h.c2
    have cd := h.rD.cell k hk
    have hk1 : (k : Int) < 8 := by omega
    go_enter Tryd.func26, Tryd.ntmps26
    go_wp2_with (go_at_call 54; refine (client16_calls _ _).mono ?_; rintro e w' ⟨rfl, rfl⟩)
    go_ret
    exact ⟨by rw [E.out]; rfl, rfl⟩
  · have hc' : inC c = false := by simpa using hc
    have E := Lib.hid (show deadV d c = false by simp [deadV, hc'])
    clear hc
    go_enter Tryd.func26, Tryd.ntmps26
    go_wp2_with (go_at_call 54; refine (client16_calls _ _).mono ?_; rintro e w' ⟨rfl, rfl⟩)
    go_ret
    exact ⟨by rw [E.out]; rfl, rfl⟩
theorem rbUntil_calls (w : World) (b gT gS gD cap : Nat) (u s : Nat → Int) (d : Nat → Bool) (c : Int) (h : RBk w b gT gS gD cap u s d) :
    Calls Tryd.prog 27 #[.pointer (some ⟨b, 0, none⟩), .int .i64 c] w fun e w' => e = .returned (.int .i64 (untilV u c)) ∧ w = w' := by
  by_cases hc : inC c = true
  · have E := Lib.hid (show untilV u c = u c.toNat by simp [untilV, hc])
    obtain ⟨k, rfl, hk⟩ := inC_nat hc
    rw [Int.toNat_natCast] at E
    have c0 := h.c0
    have cu := h.rT.cell k hk
    have hk1 : (k : Int) < 8 := by omega
    go_enter Tryd.func27, Tryd.ntmps27
    go_wp2_with (go_at_call 54; refine (client16_calls _ _).mono ?_; rintro e w' ⟨rfl, rfl⟩)
    go_ret
    exact ⟨by rw [E.out]; rfl, rfl⟩
  · have hc' : inC c = false := by simpa using hc
    have E := Lib.hid (show untilV u c = -1 by simp [untilV, hc'])
    clear hc
    go_enter Tryd.func27, Tryd.ntmps27
    go_wp2_with (go_at_call 54; refine (client16_calls _ _).mono ?_; rintro e w' ⟨rfl, rfl⟩)
    go_ret
    exact ⟨by rw [E.out]; rfl, rfl⟩

set_option maxHeartbeats 400000 in
theorem rbForgive_calls (w : World) (b gT gS gD cap : Nat) (u s : Nat → Int) (d : Nat → Bool) (c : Int) (h : RBk w b gT gS gD cap u s d) :
    Calls Tryd.prog 50 #[.pointer (some ⟨b, 0, none⟩), .int .i64 c] w fun e w' => e = .returned (.int .i64 (forgE d c)) ∧ RBk w' b gT gS gD cap (forgU u d c) s (forgD d c) ∧ Mod [gT, gS, gD] w w' := by
  by_cases hd : deadV d c = true
  · have hc : inC c = true := by
      cases e : inC c
      · simp [deadV, e] at hd
      · rfl
    obtain ⟨k, rfl, hk⟩ := inC_nat hc
    have c0 := h.c0
    have c2 := h.c2
    have cd := h.rD.cell k hk
    have cu := h.rT.cell k hk
    have f1 := h.rD.free k
    have f2 := h.rT.free k
    have n1 := h.n1
    have n3 := h.n3
    have n5 := h.n5
    have n5' := h.n5.symm
    have hk1 : (k : Int) < 8 := by omega
    have E := Lib.hid (show forgE d k = 0 by simp [forgE, hd])
    have E2 := Lib.hid (show RBk ((w.setCell ⟨gD, k, none⟩ (.bool false)).setCell ⟨gT, k, none⟩ (.int .i64 (-1))) b gT gS gD cap (forgU u d k) s (forgD d k) by
        simpa [forgU, forgD, hd] using (h.setD k false).setU k (-1) (by omega))
    have hD := Lib.hid hd
    clear hc hd
    go_enter Tryd.func50, Tryd.ntmps50
    go_wp2_with (go_at_call 26; refine (rbDead_calls _ _ _ _ _ _ _ _ _ _ h).mono ?_; rintro e w' ⟨rfl, rfl⟩; rw [hD.out])
    go_ret
    exact ⟨by rw [E.out]; rfl, E2.out, ((Mod.refl _ _).setCell (by simp) _).setCell (by simp) _⟩
  · have hd' : deadV d c = false := by simpa using hd
    have E := Lib.hid (show forgE d c = 3 by simp [forgE, hd'])
    have E2 := Lib.hid (show RBk w b gT gS gD cap (forgU u d c) s (forgD d c) by simpa [forgU, forgD, hd'] using h)
    have hD := Lib.hid hd'
    clear hd hd'
    go_enter Tryd.func50, Tryd.ntmps50
    go_wp2_with (go_at_call 26; refine (rbDead_calls _ _ _ _ _ _ _ _ _ _ h).mono ?_; rintro e w' ⟨rfl, rfl⟩; rw [hD.out])
    go_ret
    exact ⟨by rw [E.out]; rfl, E2.out, Mod.refl _ _⟩

/-- What the document's Renew says, and leaves. -/
def RRenewPost (w : World) (b gT gS gD cap : Nat) (u s : Nat → Int) (d : Nat → Bool) (c seq now len : Int) (e : Ending) (w' : World) : Prop :=
  e = .returned (.tuple #[.int .i64 (renewV u s d c seq now len), .int .i64 (renewE s d c seq now len)]) ∧ RBk w' b gT gS gD cap (renewU u s d c seq now len) (renewS s d c seq now len) d ∧ Mod [gT, gS, gD] w w'
theorem rrenew_fail {w : World} {b gT gS gD cap : Nat} {u s : Nat → Int} {d : Nat → Bool} {c seq now len x : Int} (h : RBk w b gT gS gD cap u s d) (hx : renewE s d c seq now len = x) (h0 : x ≠ 0) :
    RRenewPost w b gT gS gD cap u s d c seq now len (.returned (.tuple #[.int .i64 0, .int .i64 x])) w := by
  have hne : renewE s d c seq now len ≠ 0 := by rw [hx]; exact h0
  refine ⟨by rw [hx]; simp only [renewV, if_neg hne], ?_, Mod.refl _ _⟩
  simp only [renewU, renewS, if_neg hne]
  exact h

set_option maxHeartbeats 1000000 in
theorem rbRenew_calls (w : World) (b gT gS gD cap : Nat) (u s : Nat → Int) (d : Nat → Bool) (c seq now len : Int) (h : RBk w b gT gS gD cap u s d) :
    Calls Tryd.prog 44 #[.pointer (some ⟨b, 0, none⟩), .int .i64 c, .int .i64 seq, .int .i64 now, .int .i64 len] w (RRenewPost w b gT gS gD cap u s d c seq now len) := by
  by_cases hc : inC c = false
  · have E := Lib.hid (rrenew_fail (seq := seq) (now := now) (len := len) h (show renewE s d c seq now len = 1 by simp [renewE, hc]) (by omega))
    have C := Lib.hid hc
    clear hc
    go_enter Tryd.func44, Tryd.ntmps44
    go_wp2_with (go_at_call 54; refine (client16_calls _ _).mono ?_; rintro e w' ⟨rfl, rfl⟩; rw [C.out])
    go_ret2
    exact E.out
  have hc' : inC c = true := by simpa using hc
  have C := Lib.hid hc'
  by_cases h1 : seq < 1
  · have E := Lib.hid (rrenew_fail (seq := seq) (now := now) (len := len) h (show renewE s d c seq now len = 1 by simp [renewE, hc', h1]) (by omega))
    clear hc hc'
    go_enter Tryd.func44, Tryd.ntmps44
    go_wp2_with (go_at_call 54; refine (client16_calls _ _).mono ?_; rintro e w' ⟨rfl, rfl⟩; rw [C.out])
    go_ret2
    exact E.out
  have hd1 : decide (seq < 1) = false := by simpa using h1
  by_cases h2 : 1099511627776 < seq
  · have E := Lib.hid (rrenew_fail (seq := seq) (now := now) (len := len) h (show renewE s d c seq now len = 1 by simp [renewE, hc', h1, h2]) (by omega))
    clear hc hc'
    go_enter Tryd.func44, Tryd.ntmps44
    go_wp2_with (go_at_call 54; refine (client16_calls _ _).mono ?_; rintro e w' ⟨rfl, rfl⟩; rw [C.out])
    go_ret2
    exact E.out
  have hd2 : decide (1099511627776 < seq) = false := by simpa using h2
  by_cases h3 : okT now = false
  · have E := Lib.hid (rrenew_fail (seq := seq) (now := now) (len := len) h (show renewE s d c seq now len = 1 by simp [renewE, hc', h1, h2, h3]) (by omega))
    have T1 := Lib.hid h3
    clear hc hc' h3
    go_enter Tryd.func44, Tryd.ntmps44
    go_wp2_with (first | (go_at_call 54; refine (client16_calls _ _).mono ?_; rintro e w' ⟨rfl, rfl⟩; rw [C.out]) | (go_at_call 75; (with_reducible refine (time16_calls _ now).mono ?_); rintro e w' ⟨rfl, rfl⟩; rw [T1.out]))
    go_ret2
    exact E.out
  have h3' : okT now = true := by simpa using h3
  have T1 := Lib.hid h3'
  by_cases h3l : okT len = false
  · have E := Lib.hid (rrenew_fail (seq := seq) (now := now) (len := len) h (show renewE s d c seq now len = 1 by simp [renewE, hc', h1, h2, h3', h3l]) (by omega))
    have T2 := Lib.hid h3l
    clear hc hc' h3 h3' h3l
    go_enter Tryd.func44, Tryd.ntmps44
    go_wp2_with (first | (go_at_call 54; refine (client16_calls _ _).mono ?_; rintro e w' ⟨rfl, rfl⟩; rw [C.out]) | (go_at_call 75; (with_reducible refine (time16_calls _ now).mono ?_); rintro e w' ⟨rfl, rfl⟩; rw [T1.out]) | (go_at_call 75; (with_reducible refine (time16_calls _ len).mono ?_); rintro e w' ⟨rfl, rfl⟩; rw [T2.out]))
    go_ret2
    exact E.out
  have h3l' : okT len = true := by simpa using h3l
  have T2 := Lib.hid h3l'
  have b1 : 0 ≤ now ∧ now ≤ 1099511627776 := by simpa [okT] using h3'
  have b2 : 0 ≤ len ∧ len ≤ 1099511627776 := by simpa [okT] using h3l'
  obtain ⟨k, rfl, hk⟩ := inC_nat hc'
  have hk1 : (k : Int) < 8 := by omega
  have c0 := h.c0
  have c1 := h.c1
  have c2 := h.c2
  have cd := h.rD.cell k hk
  have cs := h.rS.cell k hk
  have cu := h.rT.cell k hk
  by_cases h4 : d k = true
  · have E := Lib.hid (rrenew_fail (seq := seq) (now := now) (len := len) h (show renewE s d k seq now len = 200 by simp [renewE, hc', h1, h2, h3', h3l', h4]) (by omega))
    rw [h4] at cd
    clear hc hc' h3 h3' h3l h3l' h4
    go_enter Tryd.func44, Tryd.ntmps44
    go_wp2_with (first | (go_at_call 54; refine (client16_calls _ _).mono ?_; rintro e w' ⟨rfl, rfl⟩; rw [C.out]) | (go_at_call 75; (with_reducible refine (time16_calls _ now).mono ?_); rintro e w' ⟨rfl, rfl⟩; rw [T1.out]) | (go_at_call 75; (with_reducible refine (time16_calls _ len).mono ?_); rintro e w' ⟨rfl, rfl⟩; rw [T2.out]))
    go_ret2
    exact E.out
  have h4' : d k = false := by simpa using h4
  rw [h4'] at cd
  by_cases h5 : seq ≤ s k
  · have E := Lib.hid (rrenew_fail (seq := seq) (now := now) (len := len) h (show renewE s d k seq now len = 5 by simp [renewE, hc', h1, h2, h3', h3l', h4', h5]) (by omega))
    clear hc hc' h3 h3' h3l h3l' h4 h4'
    go_enter Tryd.func44, Tryd.ntmps44
    go_wp2_with (first | (go_at_call 54; refine (client16_calls _ _).mono ?_; rintro e w' ⟨rfl, rfl⟩; rw [C.out]) | (go_at_call 75; (with_reducible refine (time16_calls _ now).mono ?_); rintro e w' ⟨rfl, rfl⟩; rw [T1.out]) | (go_at_call 75; (with_reducible refine (time16_calls _ len).mono ?_); rintro e w' ⟨rfl, rfl⟩; rw [T2.out]))
    go_ret2
    exact E.out
  by_cases h6 : 1099511627776 < now + len
  · have E := Lib.hid (rrenew_fail (seq := seq) (now := now) (len := len) h (show renewE s d k seq now len = 6 by simp [renewE, hc', h1, h2, h3', h3l', h4', h5, h6]) (by omega))
    clear hc hc' h3 h3' h3l h3l' h4 h4'
    go_enter Tryd.func44, Tryd.ntmps44
    go_wp2_with (first | (go_at_call 54; refine (client16_calls _ _).mono ?_; rintro e w' ⟨rfl, rfl⟩; rw [C.out]) | (go_at_call 75; (with_reducible refine (time16_calls _ now).mono ?_); rintro e w' ⟨rfl, rfl⟩; rw [T1.out]) | (go_at_call 75; (with_reducible refine (time16_calls _ len).mono ?_); rintro e w' ⟨rfl, rfl⟩; rw [T2.out]))
    go_ret2
    exact E.out
  · have e0 : renewE s d k seq now len = 0 := by simp [renewE, hc', h1, h2, h3', h3l', h4', h5, h6]
    have fu := h.rT.free k
    have fs := h.rS.free k
    have ub := h.ub k
    have n1 := h.n1
    have n2 := h.n2
    have n4 := h.n4
    have n4' := h.n4.symm
    have n2' := h.n2.symm
    have n1' := h.n1.symm
    have key : ∀ m : Int, m = max (u k) (now + len) → RRenewPost w b gT gS gD cap u s d k seq now len (.returned (.tuple #[.int .i64 m, .int .i64 0])) (((w.setCell ⟨gS, k, none⟩ (.int .i64 seq)).setCell ⟨gT, k, none⟩ (.int .i64 m)).drew) := by
      intro m hm
      subst hm
      refine ⟨by simp [renewV, e0], ?_, (((Mod.refl _ _).setCell (by simp) _).setCell (by simp) _).drew⟩
      simp only [renewU, renewS, if_pos e0, Int.toNat_natCast]
      exact ((h.setS k seq).setU k _ (by omega)).drew
    have K := Lib.hid key
    clear hc hc' h3 h3' h3l h3l' h4 h4' e0 key
    go_enter Tryd.func44, Tryd.ntmps44
    go_wp2_with (first | (go_at_call 54; refine (client16_calls _ _).mono ?_; rintro e w' ⟨rfl, rfl⟩; rw [C.out]) | (go_at_call 75; (with_reducible refine (time16_calls _ now).mono ?_); rintro e w' ⟨rfl, rfl⟩; rw [T1.out]) | (go_at_call 75; (with_reducible refine (time16_calls _ len).mono ?_); rintro e w' ⟨rfl, rfl⟩; rw [T2.out]))
    go_region
    all_goals go_wp2
    all_goals go_ret2
    all_goals exact K.out _ (by omega)
end Go.Proofs.YtijjbkkcienfgaaDoor
