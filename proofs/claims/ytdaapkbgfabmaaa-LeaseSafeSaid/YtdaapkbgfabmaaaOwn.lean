/- What the calls of a client's own lease (package lease) come to. No condition beyond what stands in each. -/
import Derived.Test.YtdaapkbgfabmaaaProg
import Derived.Test.YtdaapkbgfabmaaaLib
import Derived.Test.YtdaapkbgfabmaaaMarg
import Derived.Test.YtdaapkbgfabmaaaTime
namespace Go.Proofs.Ytdaapkbgfabmaaa
open Go.RowKit
set_option linter.unusedVariables false
set_option linter.unusedSimpArgs false
attribute [local go_sem ↓] Go.wp_at_zero Go.wp_at_succ

def owF (p q : Nat) (a : Nat → Int) (last got till : Int) (j : Nat) : Value :=
  if j = 0 then .func (.func 61) #[] #[.pointer (some ⟨p, 0, none⟩), .pointer (some ⟨q, 0, none⟩)] else if j ≤ 16 then .int .i64 (a (j - 1)) else if j = 17 then .int .i64 last else if j = 18 then .int .i64 got else .int .i64 till
/-- A client's own lease at block b; its drift in blocks p and q. -/
structure Ow (w : World) (b p q : Nat) (num slack : Int) (a : Nat → Int) (last got till : Int) : Prop where
  arr : Arr w b 106 20 (owF p q a last got till)
  cp : Arr w p 3 1 (fun _ => .int .i64 num)
  cq : Arr w q 3 1 (fun _ => .int .i64 slack)
  np : b ≠ p
  nq : b ≠ q
  l0 : 0 ≤ last
  l1 : last ≤ 1099511627776
  g0 : 0 ≤ got
  g1 : got ≤ last
  t0 : -1 ≤ till
  t1 : till ≤ 2199023255552
  a0 : ∀ i, 0 ≤ a i ∧ a i ≤ 1099511627776
namespace Ow
variable {w w' : World} {b p q : Nat} {num slack : Int} {a : Nat → Int} {last got till : Int}
theorem mod {S : List Nat} (h : Ow w b p q num slack a last got till) (m : Mod S w w') (h1 : b ∉ S) (h2 : p ∉ S) (h3 : q ∉ S) : Ow w' b p q num slack a last got till :=
  ⟨h.arr.mod m h1, h.cp.mod m h2, h.cq.mod m h3, h.np, h.nq, h.l0, h.l1, h.g0, h.g1, h.t0, h.t1, h.a0⟩
theorem drew (h : Ow w b p q num slack a last got till) : Ow w.drew b p q num slack a last got till := h.mod ((Mod.refl [] _).drew) (by simp) (by simp) (by simp)
theorem drewN (h : Ow w b p q num slack a last got till) (k : Nat) : Ow (w.drewN k) b p q num slack a last got till := h.mod ((Mod.refl [] _).drewN k) (by simp) (by simp) (by simp)
theorem alloc (h : Ow w b p q num slack a last got till) (o : Obj) : Ow (w.alloc o) b p q num slack a last got till := h.mod ((Mod.refl [] _).alloc o) (by simp) (by simp) (by simp)
theorem cLast (h : Ow w b p q num slack a last got till) : w.cell? ⟨b, 17, none⟩ = some (.int .i64 last) := h.arr.cell 17 (by omega)
theorem cGot (h : Ow w b p q num slack a last got till) : w.cell? ⟨b, 18, none⟩ = some (.int .i64 got) := h.arr.cell 18 (by omega)
theorem cTill (h : Ow w b p q num slack a last got till) : w.cell? ⟨b, 19, none⟩ = some (.int .i64 till) := h.arr.cell 19 (by omega)
theorem cFn (h : Ow w b p q num slack a last got till) : w.cell? ⟨b, 0, none⟩ = some (.func (.func 61) #[] #[.pointer (some ⟨p, 0, none⟩), .pointer (some ⟨q, 0, none⟩)]) := h.arr.cell 0 (by omega)
theorem cA (h : Ow w b p q num slack a last got till) (i : Nat) (hi : i < 16) : w.cell? ⟨b, 1 + i, none⟩ = some (.int .i64 (a i)) := by
  rw [h.arr.cell (1 + i) (by omega)]
  simp [owF, show 1 + i ≤ 16 by omega]
theorem setLast (h : Ow w b p q num slack a last got till) (v : Int) (h0 : last ≤ v) (h1 : v ≤ 1099511627776) : Ow (w.setCell ⟨b, 17, none⟩ (.int .i64 v)) b p q num slack a v got till :=
  ⟨(h.arr.set 17 _).congr fun j _ => by
    by_cases e : j = 17
    · subst e; simp [owF]
    · simp [owF, e], h.cp.other h.np _, h.cq.other h.nq _, h.np, h.nq, by have := h.l0; omega, h1, h.g0, by have := h.g1; omega, h.t0, h.t1, h.a0⟩
theorem setGot (h : Ow w b p q num slack a last got till) (v : Int) (h0 : 0 ≤ v) (h1 : v ≤ last) : Ow (w.setCell ⟨b, 18, none⟩ (.int .i64 v)) b p q num slack a last v till :=
  ⟨(h.arr.set 18 _).congr fun j _ => by
    by_cases e : j = 18
    · subst e; simp [owF]
    · simp [owF, e], h.cp.other h.np _, h.cq.other h.nq _, h.np, h.nq, h.l0, h.l1, h0, h1, h.t0, h.t1, h.a0⟩
theorem setTill (h : Ow w b p q num slack a last got till) (v : Int) (h0 : -1 ≤ v) (h1 : v ≤ 2199023255552) : Ow (w.setCell ⟨b, 19, none⟩ (.int .i64 v)) b p q num slack a last got v :=
  ⟨(h.arr.set 19 _).congr fun j hj => by
    by_cases e : j = 19
    · subst e; simp [owF]
    · have h19 : j ≤ 18 := by omega
      by_cases e18 : j = 18
      · simp [owF, e18]
      · by_cases e17 : j = 17
        · simp [owF, e17]
        · have : j ≤ 16 := by omega
          simp [owF, e, e18, e17, this], h.cp.other h.np _, h.cq.other h.nq _, h.np, h.nq, h.l0, h.l1, h.g0, h.g1, h0, h1, h.a0⟩
theorem setA (h : Ow w b p q num slack a last got till) (i : Nat) (hi : i < 16) (v : Int) (h0 : 0 ≤ v) (h1 : v ≤ 1099511627776) : Ow (w.setCell ⟨b, 1 + i, none⟩ (.int .i64 v)) b p q num slack (upd a i v) last got till :=
  ⟨(h.arr.set (1 + i) _).congr fun j _ => by
    by_cases e : j = 1 + i
    · subst e
      simp [owF, upd, show 1 + i ≤ 16 by omega]
    · by_cases e0 : j = 0
      · subst e0
        have : ¬ (0 = 1 + i) := by omega
        simp [owF, this]
      · have : ¬ (j - 1 = i) := by omega
        simp [owF, e, e0, upd, this], h.cp.other h.np _, h.cq.other h.nq _, h.np, h.nq, h.l0, h.l1, h.g0, h.g1, h.t0, h.t1, fun j => by
    have := h.a0 j
    unfold upd
    split
    · exact ⟨h0, h1⟩
    · exact this⟩
end Ow

set_option maxHeartbeats 400000 in
theorem owNew_calls (w : World) (num slack : Int) :
    Calls Try.prog 41 #[.int .i64 num, .int .i64 slack] w fun e w' => e = .returned (.pointer (some ⟨w.heap.size + 1 + 1, 0, none⟩)) ∧
      Ow w' (w.heap.size + 1 + 1) w.heap.size (w.heap.size + 1) num slack (fun _ => 0) 0 0 (-1) ∧ Mod [] w w' := by
  go_enter Try.func41, Try.ntmps41
  go_wp2
  go_ret
  refine ⟨rfl, ?_, (((Mod.refl _ _).alloc _).alloc _).alloc _⟩
  have e1 : (w.alloc (.cells #[.int .i64 num] 3)).heap.size = w.heap.size + 1 := by simp
  have e2 : ((w.alloc (.cells #[.int .i64 num] 3)).alloc (.cells #[.int .i64 slack] 3)).heap.size = w.heap.size + 1 + 1 := by simp
  have a1 := Arr.new' w #[.int .i64 num] 3 1 (fun _ => .int .i64 num) rfl (fun i hi => by
    obtain rfl : i = 0 := by omega
    rfl)
  have a2 := Arr.new' (w.alloc (.cells #[.int .i64 num] 3)) #[.int .i64 slack] 3 1 (fun _ => .int .i64 slack) rfl (fun i hi => by
    obtain rfl : i = 0 := by omega
    rfl)
  rw [e1] at a2
  refine ⟨?_, (a1.alloc _).alloc _, a2.alloc _, by omega, by omega, by omega, by omega, by omega, by omega, by omega, by omega, fun _ => by omega⟩
  have a3 := Arr.new' ((w.alloc (.cells #[.int .i64 num] 3)).alloc (.cells #[.int .i64 slack] 3)) #[.func (.func 61) #[] #[.pointer (some ⟨w.heap.size, 0, none⟩), .pointer (some ⟨w.heap.size + 1, 0, none⟩)], .int .i64 0, .int .i64 0, .int .i64 0, .int .i64 0, .int .i64 0, .int .i64 0, .int .i64 0, .int .i64 0, .int .i64 0, .int .i64 0, .int .i64 0, .int .i64 0, .int .i64 0, .int .i64 0, .int .i64 0, .int .i64 0, .int .i64 0, .int .i64 0, .int .i64 (-1)] 106 20 (owF w.heap.size (w.heap.size + 1) (fun _ => 0) 0 0 (-1)) rfl (fun i hi => by
    match i, hi with
    | 0, _ | 1, _ | 2, _ | 3, _ | 4, _ | 5, _ | 6, _ | 7, _ | 8, _ | 9, _ | 10, _ | 11, _ | 12, _ | 13, _ | 14, _ | 15, _ | 16, _ | 17, _ | 18, _ | 19, _ => rfl
    | n + 20, h => exact absurd h (by omega))
  rw [e2] at a3
  exact a3

theorem owTill_calls (w : World) (b p q : Nat) (num slack : Int) (a : Nat → Int) (last got till : Int) (h : Ow w b p q num slack a last got till) :
    Calls Try.prog 43 #[.pointer (some ⟨b, 0, none⟩)] w fun e w' => e = .returned (.int .i64 till) ∧ w = w' := by
  have c := h.cTill
  go_enter Try.func43, Try.ntmps43
  go_wp2
  go_ret
  exact ⟨rfl, rfl⟩
theorem owGood_calls (w : World) (b p q : Nat) (num slack : Int) (a : Nat → Int) (last got till now : Int) (h : Ow w b p q num slack a last got till) :
    Calls Try.prog 50 #[.pointer (some ⟨b, 0, none⟩), .int .i64 now] w fun e w' => e = .returned (.bool (decide (now ≤ till))) ∧ w = w' := by
  have c := h.cTill
  go_enter Try.func50, Try.ntmps50
  go_wp2
  all_goals go_ret
  all_goals exact ⟨by simp, rfl⟩
set_option maxHeartbeats 400000 in
theorem owLose_calls (w : World) (b p q : Nat) (num slack : Int) (a : Nat → Int) (last got till : Int) (h : Ow w b p q num slack a last got till) :
    Calls Try.prog 48 #[.pointer (some ⟨b, 0, none⟩)] w fun e w' => e = .returned (.tuple #[]) ∧ Ow w' b p q num slack a last last (-1) ∧ Mod [b] w w' := by
  have c1 := h.cLast
  have c2 := h.cGot
  have c3 := h.cTill
  have f1 := h.arr.free 18
  have f2 := h.arr.free 19
  have E := Lib.hid ((h.setTill (-1) (by omega) (by omega)).setGot last h.l0 (by omega))
  go_enter Try.func48, Try.ntmps48
  go_wp2
  go_end0
  exact ⟨rfl, E.out, ((Mod.refl _ _).setCell (by simp) _).setCell (by simp) _⟩

def askE (last now : Int) : Int := if okT now = false then 1 else if 1099511627776 ≤ last then 6 else 0
def askV (last now : Int) : Int := if askE last now = 0 then last + 1 else 0
def askL (last now : Int) : Int := if askE last now = 0 then last + 1 else last
def askA (a : Nat → Int) (last now : Int) : Nat → Int := if askE last now = 0 then upd a ((last + 1) % 16).toNat now else a
def AskPost (w : World) (b p q : Nat) (num slack : Int) (a : Nat → Int) (last got till now : Int) (e : Ending) (w' : World) : Prop :=
  e = .returned (.tuple #[.int .i64 (askV last now), .int .i64 (askE last now)]) ∧ Ow w' b p q num slack (askA a last now) (askL last now) got till ∧ Mod [b] w w'
theorem ask_fail {w w' : World} {b p q : Nat} {num slack : Int} {a : Nat → Int} {last got till now x : Int} (h : Ow w b p q num slack a last got till) (hx : askE last now = x) (h0 : x ≠ 0) (m : Mod [] w w') :
    AskPost w b p q num slack a last got till now (.returned (.tuple #[.int .i64 0, .int .i64 x])) w' := by
  have hne : askE last now ≠ 0 := by rw [hx]; exact h0
  refine ⟨by rw [hx]; simp only [askV, if_neg hne], ?_, m.nil⟩
  simp only [askA, askL, if_neg hne]
  exact h.mod m (by simp) (by simp) (by simp)

set_option maxHeartbeats 1000000 in
theorem owAsk_calls (w : World) (b p q : Nat) (num slack : Int) (a : Nat → Int) (last got till now : Int) (h : Ow w b p q num slack a last got till) :
    Calls Try.prog 44 #[.pointer (some ⟨b, 0, none⟩), .int .i64 now] w (AskPost w b p q num slack a last got till now) := by
  have T := time1_calls w now
  have c1 := h.cLast
  have hb := h.arr.lt
  have l0 := h.l0
  have l1 := h.l1
  by_cases h1 : okT now = false
  · have E := Lib.hid (ask_fail (w' := w.alloc (.cells #[.int .i64 now] 3)) h (show askE last now = 1 by simp [askE, h1]) (by omega) ((Mod.refl _ _).alloc _))
    rw [h1] at T
    have T' := Lib.hid T
    clear T h1
    go_enter Try.func44, Try.ntmps44
    go_wp2_with (go_at_call 58; refine T'.out.mono ?_; rintro e w' ⟨rfl, rfl⟩)
    go_ret2
    exact E.out
  have h1' : okT now = true := by simpa using h1
  have b1 : 0 ≤ now ∧ now ≤ 1099511627776 := by simpa [okT] using h1'
  rw [h1'] at T
  have T' := Lib.hid T
  clear T h1
  by_cases h2 : 1099511627776 ≤ last
  · have E := Lib.hid (ask_fail (w' := w.alloc (.cells #[.int .i64 now] 3)) h (show askE last now = 6 by simp [askE, h1', h2]) (by omega) ((Mod.refl _ _).alloc _))
    clear h1'
    go_enter Try.func44, Try.ntmps44
    go_wp2_with (go_at_call 58; refine T'.out.mono ?_; rintro e w' ⟨rfl, rfl⟩)
    go_ret2
    exact E.out
  · have e0 : askE last now = 0 := by simp [askE, h1', h2]
    obtain ⟨r, hr, hr16⟩ : ∃ r : Nat, (last + 1) % 16 = r ∧ r < 16 := ⟨((last + 1) % 16).toNat, by omega, by omega⟩
    have f1 := h.arr.free 17
    have f2 := h.arr.free (1 + r)
    have cA := h.cA r hr16
    have r0 : (0 : Int) ≤ (r : Int) := by omega
    have r1 : (r : Int) < 16 := by omega
    have E : AskPost w b p q num slack a last got till now (.returned (.tuple #[.int .i64 (last + 1), .int .i64 0])) ((((w.setCell ⟨b, 17, none⟩ (.int .i64 (last + 1))).setCell ⟨b, 1 + r, none⟩ (.int .i64 now)).alloc (.cells #[.int .i64 now] 3)).drew) := by
      refine ⟨by simp only [askV, e0, if_true], ?_, ((((Mod.refl _ _).setCell (by simp) _).setCell (by simp) _).alloc _).drew⟩
      simp only [askA, askL, e0, if_true, hr, Int.toNat_natCast]
      exact (((h.setLast (last + 1) (by omega) (by omega)).setA r hr16 now b1.1 b1.2).alloc _).drew
    have E' := Lib.hid E
    have ne17 : ¬ (1 + r = 17) := by omega
    clear E e0 h1'
    go_enter Try.func44, Try.ntmps44
    go_wp2_with (go_at_call 58; refine T'.out.mono ?_; rintro e w' ⟨rfl, rfl⟩)
    go_region
    all_goals go_wp2
    go_ret2
    exact E'.out

def gotE (last got seq len : Int) : Int := if okT len = false then 1 else if seq ≤ got then 3 else if last < seq then 3 else if seq ≤ last - 16 then 3 else 0
def gotG (last got seq len : Int) : Int := if gotE last got seq len = 0 then seq else got
def gotT (a : Nat → Int) (last got till seq len num slack : Int) : Int := if gotE last got seq len = 0 then max till (a (seq % 16).toNat + margV len num slack) else till
def GotPost (w : World) (b p q : Nat) (num slack : Int) (a : Nat → Int) (last got till seq len : Int) (e : Ending) (w' : World) : Prop :=
  e = .returned (.int .i64 (gotE last got seq len)) ∧ Ow w' b p q num slack a last (gotG last got seq len) (gotT a last got till seq len num slack) ∧ Mod [b] w w'
theorem got_fail {w w' : World} {b p q : Nat} {num slack : Int} {a : Nat → Int} {last got till seq len x : Int} (h : Ow w b p q num slack a last got till) (hx : gotE last got seq len = x) (h0 : x ≠ 0) (m : Mod [] w w') :
    GotPost w b p q num slack a last got till seq len (.returned (.int .i64 x)) w' := by
  have hne : gotE last got seq len ≠ 0 := by rw [hx]; exact h0
  refine ⟨by rw [hx], ?_, m.nil⟩
  simp only [gotG, gotT, if_neg hne]
  exact h.mod m (by simp) (by simp) (by simp)

theorem owFn_calls (w : World) (b p q : Nat) (num slack : Int) (a : Nat → Int) (last got till len : Int) (h : Ow w b p q num slack a last got till) :
    Calls Try.prog 61 #[.int .i64 len, .pointer (some ⟨p, 0, none⟩), .pointer (some ⟨q, 0, none⟩)] w fun e w' => e = .returned (.int .i64 (margV len num slack)) ∧ w = w' := by
  have c1 := h.cp.cell 0 (by omega)
  have c2 := h.cq.cell 0 (by omega)
  go_enter Try.func61, Try.ntmps61
  go_wp2_with (go_at_call 14; refine (margin_calls _ _ _ _).mono ?_; rintro e w' ⟨rfl, rfl⟩)
  go_ret
  exact ⟨rfl, rfl⟩

set_option maxHeartbeats 1000000 in
theorem owGot_calls (w : World) (b p q : Nat) (num slack : Int) (a : Nat → Int) (last got till seq len : Int) (h : Ow w b p q num slack a last got till) :
    Calls Try.prog 46 #[.pointer (some ⟨b, 0, none⟩), .int .i64 seq, .int .i64 len] w (GotPost w b p q num slack a last got till seq len) := by
  have T := time1_calls w len
  have c1 := h.cLast
  have c2 := h.cGot
  have c3 := h.cTill
  have hb := h.arr.lt
  have l0 := h.l0
  have l1 := h.l1
  by_cases h1 : okT len = false
  · have E := Lib.hid (got_fail (seq := seq) (w' := w.alloc (.cells #[.int .i64 len] 3)) h (show gotE last got seq len = 1 by simp [gotE, h1]) (by omega) ((Mod.refl _ _).alloc _))
    rw [h1] at T
    have T' := Lib.hid T
    clear T h1
    go_enter Try.func46, Try.ntmps46
    go_wp2_with (go_at_call 58; refine T'.out.mono ?_; rintro e w' ⟨rfl, rfl⟩)
    go_ret
    exact E.out
  have h1' : okT len = true := by simpa using h1
  have b1 : 0 ≤ len ∧ len ≤ 1099511627776 := by simpa [okT] using h1'
  rw [h1'] at T
  have T' := Lib.hid T
  clear T h1
  by_cases h2 : seq ≤ got
  · have E := Lib.hid (got_fail (w' := w.alloc (.cells #[.int .i64 len] 3)) h (show gotE last got seq len = 3 by simp [gotE, h1', h2]) (by omega) ((Mod.refl _ _).alloc _))
    clear h1'
    go_enter Try.func46, Try.ntmps46
    go_wp2_with (go_at_call 58; refine T'.out.mono ?_; rintro e w' ⟨rfl, rfl⟩)
    go_ret
    exact E.out
  have hd2 : decide (seq ≤ got) = false := by simpa using h2
  by_cases h3 : last < seq
  · have E := Lib.hid (got_fail (w' := w.alloc (.cells #[.int .i64 len] 3)) h (show gotE last got seq len = 3 by simp [gotE, h1', h2, h3]) (by omega) ((Mod.refl _ _).alloc _))
    clear h1'
    go_enter Try.func46, Try.ntmps46
    go_wp2_with (go_at_call 58; refine T'.out.mono ?_; rintro e w' ⟨rfl, rfl⟩)
    go_ret
    exact E.out
  have hd3 : decide (last < seq) = false := by simpa using h3
  by_cases h4 : seq ≤ last - 16
  · have E := Lib.hid (got_fail (w' := w.alloc (.cells #[.int .i64 len] 3)) h (show gotE last got seq len = 3 by simp [gotE, h1', h2, h3, h4]) (by omega) ((Mod.refl _ _).alloc _))
    clear h1'
    go_enter Try.func46, Try.ntmps46
    go_wp2_with (go_at_call 58; refine T'.out.mono ?_; rintro e w' ⟨rfl, rfl⟩)
    go_ret
    exact E.out
  · have e0 : gotE last got seq len = 0 := by simp [gotE, h1', h2, h3, h4]
    have g0 := h.g0
    have s0 : 0 ≤ seq := by omega
    obtain ⟨r, hr, hr16⟩ : ∃ r : Nat, seq % 16 = r ∧ r < 16 := ⟨(seq % 16).toNat, by omega, by omega⟩
    have htm : seq.tmod 16 = (r : Int) := by rw [Int.tmod_eq_emod_of_nonneg s0]; exact hr
    have f1 := h.arr.free 18
    have f2 := h.arr.free 19
    have cA := h.cA r hr16
    have cF := h.cFn
    have r0 : (0 : Int) ≤ (r : Int) := by omega
    have r1 : (r : Int) < 16 := by omega
    have mb := margV_bd len num slack
    have mb0 := mb.1
    have mb1 := mb.2.2
    have ab := h.a0 r
    have ab0 := ab.1
    have ab1 := ab.2
    have t0 := h.t0
    have t1 := h.t1
    have hws : IntKind.i64.wrap (a r + margV len num slack) = a r + margV len num slack := by
      rw [IntKind.wrap_i64]; omega
    have hS := (h.setGot seq (by omega) (by omega)).alloc (.cells #[.int .i64 len] 3)
    have E : ∀ m : Int, m = max till (a r + margV len num slack) → GotPost w b p q num slack a last got till seq len (.returned (.int .i64 0)) ((((w.setCell ⟨b, 18, none⟩ (.int .i64 seq)).setCell ⟨b, 19, none⟩ (.int .i64 m)).alloc (.cells #[.int .i64 len] 3)).drew) := by
      intro m hm
      subst hm
      refine ⟨by rw [e0], ?_, ((((Mod.refl _ _).setCell (by simp) _).setCell (by simp) _).alloc _).drew⟩
      simp only [gotG, gotT, e0, if_true, hr, Int.toNat_natCast]
      exact (((h.setGot seq (by omega) (by omega)).setTill _ (by omega) (by omega)).alloc _).drew
    have E' := Lib.hid E
    clear E e0 h1' mb ab
    go_enter Try.func46, Try.ntmps46
    go_wp2_with (go_at_call 58; refine T'.out.mono ?_; rintro e w' ⟨rfl, rfl⟩)
    go_region_with (first | (go_at_call 61; refine (owFn_calls _ _ _ _ _ _ _ _ _ _ _ hS.drew).mono ?_; rintro e w3 ⟨rfl, rfl⟩))
    all_goals go_wp2
    all_goals go_ret
    all_goals exact E'.out _ (by omega)
end Go.Proofs.Ytdaapkbgfabmaaa
