/- What a clerk (package clerk) is in memory, and what its calls come to. The premise, in each: the variable 'whole' holds what its initialiser lays. -/
import Derived.Test.YtkajedgghoboaaaDoorOwn
import Derived.Test.YtkajedgghoboaaaDoorSpan8
import Derived.Deep.RegionHeld3
import Derived.StillTailTactics
namespace Go.Proofs.YtkajedgghoboaaaDoor
open Go.RowKit
set_option linter.unusedVariables false
set_option linter.unusedSimpArgs false
attribute [local go_sem ↓] Go.wp_at_zero Go.wp_at_succ

/-- A clerk's state. -/
structure St where
  id : Int
  num : Int
  slack : Int
  a : Nat → Int
  last : Int
  got : Int
  till : Int
  t : Nat → Nat → Nat
  grant : Int
  told : Int
def stNew (id num slack : Int) : St := ⟨id, num, slack, fun _ => 0, 0, 0, -1, fun _ _ => 0, 0, 0⟩
def ckF (b bT : Nat) (id grant told : Int) (j : Nat) : Value := if j = 0 then .pointer (some ⟨b, 0, none⟩) else if j = 1 then .int .i64 id else if j = 2 then .pointer (some ⟨bT, 0, none⟩) else if j = 3 then .int .i64 grant else .int .i64 told
structure Clk (w : World) (k b p q bT : Nat) (s : St) : Prop where
  arr : Arr w k 62 5 (ckF b bT s.id s.grant s.told)
  own : Ow w b p q s.num s.slack s.a s.last s.got s.till
  tb : Tb w bT s.t
  wh : Whole w
  k0 : k ≠ 0
  b0 : b ≠ 0
  t0 : bT ≠ 0
  g0 : 0 ≤ s.grant
  g1 : s.grant < 1048576
  o0 : 0 ≤ s.told
  o1 : s.told ≤ 1048575
theorem arr_ne {w : World} {b b' : Nat} {T T' : TypeId} {N N' : Nat} {f f' : Nat → Value} (h : Arr w b T N f) (h' : Arr w b' T' N' f') (ht : T ≠ T') : b ≠ b' := by
  rintro rfl
  obtain ⟨cs, h1, _, _⟩ := h
  obtain ⟨cs', h2, _, _⟩ := h'
  rw [h1] at h2
  simp at h2
  exact ht h2.2
namespace Clk
variable {w w' : World} {k b p q bT : Nat} {s : St}
theorem n1 (h : Clk w k b p q bT s) : k ≠ b := arr_ne h.arr h.own.arr (by decide)
theorem n2 (h : Clk w k b p q bT s) : k ≠ p := arr_ne h.arr h.own.cp (by decide)
theorem n3 (h : Clk w k b p q bT s) : k ≠ q := arr_ne h.arr h.own.cq (by decide)
theorem n4 (h : Clk w k b p q bT s) : k ≠ bT := arr_ne h.arr h.tb.arr (by decide)
theorem n5 (h : Clk w k b p q bT s) : b ≠ bT := arr_ne h.own.arr h.tb.arr (by decide)
theorem n6 (h : Clk w k b p q bT s) : p ≠ bT := arr_ne h.own.cp h.tb.arr (by decide)
theorem n7 (h : Clk w k b p q bT s) : q ≠ bT := arr_ne h.own.cq h.tb.arr (by decide)
theorem mod {S : List Nat} (h : Clk w k b p q bT s) (m : Mod S w w') (h0 : 0 ∉ S) (h1 : k ∉ S) (h2 : b ∉ S) (h3 : p ∉ S) (h4 : q ∉ S) (h5 : bT ∉ S) : Clk w' k b p q bT s :=
  ⟨h.arr.mod m h1, h.own.mod m h2 h3 h4, h.tb.mod m h5, h.wh.mod m h0, h.k0, h.b0, h.t0, h.g0, h.g1, h.o0, h.o1⟩
theorem same (h : Clk w k b p q bT s) (m : Mod [] w w') : Clk w' k b p q bT s := h.mod m (by simp) (by simp) (by simp) (by simp) (by simp) (by simp)
theorem c0 (h : Clk w k b p q bT s) : w.cell? ⟨k, 0, none⟩ = some (.pointer (some ⟨b, 0, none⟩)) := h.arr.cell 0 (by omega)
theorem c1 (h : Clk w k b p q bT s) : w.cell? ⟨k, 1, none⟩ = some (.int .i64 s.id) := h.arr.cell 1 (by omega)
theorem c2 (h : Clk w k b p q bT s) : w.cell? ⟨k, 2, none⟩ = some (.pointer (some ⟨bT, 0, none⟩)) := h.arr.cell 2 (by omega)
theorem c3 (h : Clk w k b p q bT s) : w.cell? ⟨k, 3, none⟩ = some (.int .i64 s.grant) := h.arr.cell 3 (by omega)
theorem c4 (h : Clk w k b p q bT s) : w.cell? ⟨k, 4, none⟩ = some (.int .i64 s.told) := h.arr.cell 4 (by omega)
/-- Its own lease has changed. -/
theorem owned (h : Clk w k b p q bT s) {a : Nat → Int} {last got till : Int} (ho : Ow w' b p q s.num s.slack a last got till) (m : Mod [b] w w') : Clk w' k b p q bT { s with a := a, last := last, got := got, till := till } :=
  ⟨h.arr.mod m (by simpa using h.n1), ho, h.tb.mod m (by simpa using fun e => h.n5 e.symm), h.wh.mod m (by simpa using fun e => h.b0 e.symm), h.k0, h.b0, h.t0, h.g0, h.g1, h.o0, h.o1⟩
/-- Its table has changed. -/
theorem tabled (h : Clk w k b p q bT s) {t : Nat → Nat → Nat} (ht : Tb w' bT t) (m : Mod [bT] w w') : Clk w' k b p q bT { s with t := t } :=
  ⟨h.arr.mod m (by simpa using h.n4), h.own.mod m (by simpa using h.n5) (by simpa using h.n6) (by simpa using h.n7), ht, h.wh.mod m (by simpa using fun e => h.t0 e.symm), h.k0, h.b0, h.t0, h.g0, h.g1, h.o0, h.o1⟩
end Clk

theorem ckNew_calls (w : World) (id num slack : Int) (hW : Whole w) :
    Calls Tryd.prog 30 #[.int .i64 id, .int .i64 num, .int .i64 slack] w fun e w' => ∃ k b p q bT, e = .returned (.pointer (some ⟨k, 0, none⟩)) ∧ Clk w' k b p q bT (stNew id num slack) ∧ Mod [] w w' ∧
      w.heap.size ≤ k ∧ w.heap.size ≤ b ∧ w.heap.size ≤ p ∧ w.heap.size ≤ q ∧ w.heap.size ≤ bT := by
  have hl : 0 < w.heap.size := World.block_lt_of_cell? w _ hW.1
  have HW := Lib.hid hW
  clear hW
  go_enter Tryd.func30, Tryd.ntmps30
  go_wp2_with fail
  refine (owNew_calls w num slack).mono ?_
  rintro e w1 ⟨rfl, hO, m1⟩
  have s1 := hO.arr.lt
  have HO := Lib.hid hO
  have HM1 := Lib.hid m1
  clear hO m1
  go_wp2_with fail
  refine (spNew_calls w1).mono ?_
  rintro e w2 ⟨rfl, hz⟩
  have hT := tb_new w1
  rw [hz] at hT
  have m2 : Mod [] w1 w2 := by rw [← hz]; exact (Mod.refl [] w1).alloc _
  have s2 := hT.lt
  have HT := Lib.hid hT
  have HM2 := Lib.hid m2
  clear hT m2 hz
  go_wp2
  go_ret
  have m3 : Mod [] w2 (w2.alloc (.cells #[.pointer (some ⟨w.heap.size + 1 + 1, 0, none⟩), .int .i64 id, .pointer (some ⟨w1.heap.size, 0, none⟩), .int .i64 0, .int .i64 0] 62)) := (Mod.refl [] w2).alloc _
  refine ⟨w2.heap.size, w.heap.size + 1 + 1, w.heap.size, w.heap.size + 1, w1.heap.size, rfl, ⟨?_, (HO.out.mod HM2.out (by simp) (by simp) (by simp)).mod m3 (by simp) (by simp) (by simp), HT.out.mod m3 (by simp),
    ((HW.out.mod HM1.out (by simp)).mod HM2.out (by simp)).mod m3 (by simp), by omega, by omega, by omega, by simp [stNew], by simp [stNew], by simp [stNew], by simp [stNew]⟩, (HM1.out.trans HM2.out).trans m3, by omega, by omega, by omega, by omega, by omega⟩
  exact Arr.new' w2 _ _ 5 _ rfl (fun i hi => by
    match i, hi with
    | 0, _ | 1, _ | 2, _ | 3, _ | 4, _ => rfl)
def leftV (till now : Int) : Int := max 0 (till - max now 0)
theorem ckLeft_calls (w : World) (k b p q bT : Nat) (s : St) (now : Int) (h : Clk w k b p q bT s) (hn : now ≤ 9223372036854775807) :
    Calls Tryd.prog 31 #[.pointer (some ⟨k, 0, none⟩), .int .i64 now] w fun e w' => e = .returned (.int .i64 (leftV s.till now)) ∧ w = w' := by
  have c := h.c0
  have HO := Lib.hid h.own
  have ht0 := h.own.t0
  have ht1 := h.own.t1
  have key : ∀ x : Int, x = leftV s.till now → Ending.returned (.int .i64 x) = .returned (.int .i64 (leftV s.till now)) := fun x e => by rw [e]
  have KEY := Lib.hid key
  obtain ⟨T, hT⟩ : ∃ T, T = s.till := ⟨_, rfl⟩
  rw [← hT] at ht0 ht1
  have HTT := Lib.hid hT
  clear h hT key
  go_enter Tryd.func31, Tryd.ntmps31
  go_wp2_with (go_at_call 61; refine (owTill_calls _ _ _ _ _ _ _ _ _ _ HO.out).mono ?_; rintro e w' ⟨rfl, rfl⟩; rw [← HTT.out])
  all_goals
    go_ret
    exact ⟨KEY.out _ (by have := HTT.out; unfold leftV; omega), rfl⟩
theorem ckRenewed_calls (w : World) (k b p q bT : Nat) (s : St) (seq len : Int) (h : Clk w k b p q bT s) :
    Calls Tryd.prog 33 #[.pointer (some ⟨k, 0, none⟩), .int .i64 seq, .int .i64 len] w fun e w' => e = .returned (.int .i64 (gotE s.last s.got seq len)) ∧
      Clk w' k b p q bT { s with got := gotG s.last s.got seq len, till := gotT s.a s.last s.got s.till seq len s.num s.slack } ∧ Mod [b] w w' := by
  have c := h.c0
  have H := Lib.hid h
  have C := Lib.hid (owGot_calls w b p q s.num s.slack s.a s.last s.got s.till seq len h.own)
  clear h
  go_enter Tryd.func33, Tryd.ntmps33
  go_wp2_with (go_at_call 63; refine C.out.mono ?_; rintro e w' ⟨rfl, ho, m⟩)
  go_ret
  exact ⟨rfl, H.out.owned ho m, m⟩
theorem ckHolds_calls (w : World) (k b p q bT : Nat) (s : St) (h : Clk w k b p q bT s) :
    Calls Tryd.prog 37 #[.pointer (some ⟨k, 0, none⟩)] w (SomeP w (listL s.t)) := by
  have c := h.c2
  have C := Lib.hid (spList_calls w bT s.t h.tb h.wh)
  clear h
  go_enter Tryd.func37, Tryd.ntmps37
  go_wp2_with (go_at_call 20; refine C.out.mono ?_; rintro e w' ⟨v, rfl, ho, m⟩)
  go_ret
  exact ⟨v, rfl, ho, m⟩
theorem ckLose_calls (w : World) (k b p q bT : Nat) (s : St) (h : Clk w k b p q bT s) :
    Calls Tryd.prog 36 #[.pointer (some ⟨k, 0, none⟩)] w fun e w' => e = .returned (.tuple #[]) ∧ ∃ bT', w.heap.size ≤ bT' ∧
      Clk w' k b p q bT' { s with got := s.last, till := -1, t := fun _ _ => 0 } ∧ Mod [k, b] w w' := by
  have c := h.c0
  have H := Lib.hid h
  have C := Lib.hid (owLose_calls w b p q s.num s.slack s.a s.last s.got s.till h.own)
  have hl := h.arr.lt
  have hn1 := h.n1
  clear h
  go_enter Tryd.func36, Tryd.ntmps36
  go_wp2_with (go_at_call 65; refine C.out.mono ?_; rintro e w1 ⟨rfl, ho, m1⟩)
  have H1 := Lib.hid (H.out.owned ho m1)
  have s1 := m1.size
  have HM1 := Lib.hid m1
  clear ho m1
  refine (spNew_calls w1).mono ?_
  rintro e w2 ⟨rfl, hz⟩
  have hT := tb_new w1
  rw [hz] at hT
  have m2 : Mod [] w1 w2 := by rw [← hz]; exact (Mod.refl [] w1).alloc _
  have H2 := H1.out.same m2
  have d2 := H2.c2
  have f2 := H2.arr.free 2
  have s2 := hT.lt
  have m3 : Mod [k] w2 (w2.setCell ⟨k, 2, none⟩ (.pointer (some ⟨w1.heap.size, 0, none⟩))) := (Mod.refl [k] w2).setCell (by simp) _
  have hk1 : k ≠ w1.heap.size := by omega
  have F : Clk (w2.setCell ⟨k, 2, none⟩ (.pointer (some ⟨w1.heap.size, 0, none⟩))) k b p q w1.heap.size { s with got := s.last, till := -1, t := fun _ _ => 0 } :=
    ⟨(H2.arr.set 2 _).congr fun j hj => by
      match j, hj with
      | 0, _ | 1, _ | 2, _ | 3, _ | 4, _ => rfl, H2.own.mod m3 (by simpa using fun e => H2.n1 e.symm) (by simpa using fun e => H2.n2 e.symm) (by simpa using fun e => H2.n3 e.symm),
      hT.mod m3 (by simpa using fun e => hk1 e.symm), H2.wh.mod m3 (by simpa using fun e => H2.k0 e.symm), H2.k0, H2.b0, by omega, H2.g0, H2.g1, H2.o0, H2.o1⟩
  have HF := Lib.hid F
  have HMF := Lib.hid ((((HM1.out.mono (by simp) : Mod [k, b] w w1).trans m2.nil).trans (m3.mono (by simp))))
  clear F hT m2 H2 m3 hz
  go_wp2
  go_end0
  exact ⟨rfl, _, by omega, HF.out, HMF.out⟩
end Go.Proofs.YtkajedgghoboaaaDoor
