/- Both clerks side by side: the program's and the document's. No condition beyond what stands in each. -/
import Derived.Test.YtkajedgghoboaaaDoorRClerk3
import Derived.Test.YtkajedgghoboaaaDoorShow20
namespace Go.Proofs.YtkajedgghoboaaaDoor
open Go.RowKit
set_option linter.unusedVariables false
set_option linter.unusedSimpArgs false

/-- The program's clerk in state s1, the document's in state s. -/
structure Mid (w : World) (base N0 k b p q bT rk rO rT : Nat) (s1 s : St) : Prop where
  c : Clk w k b p q bT s1
  r : RClk w base N0 rk rO rT s
  lk : k < N0
  lb : b < N0
  lT : bT < N0
  lo : base ≤ w.heap.size
  z : 0 < rk ∧ 0 < rO ∧ 0 < rT
namespace Mid
variable {w w' : World} {base N0 k b p q bT rk rO rT : Nat} {s1 s s2 : St} {S : List Nat}
theorem same (h : Mid w base N0 k b p q bT rk rO rT s1 s) (m : Mod [] w w') : Mid w' base N0 k b p q bT rk rO rT s1 s :=
  ⟨h.c.same m, h.r.same m, h.lk, h.lb, h.lT, Nat.le_trans h.lo m.size, h.z⟩
theorem prog (h : Mid w base N0 k b p q bT rk rO rT s1 s) (c : Clk w' k b p q bT s2) (m : Mod S w w') (hS : ∀ z, z ∈ S → z = k ∨ z = b ∨ z = bT) : Mid w' base N0 k b p q bT rk rO rT s2 s :=
  ⟨c, h.r.prog h.c m hS h.lk h.lb h.lT, h.lk, h.lb, h.lT, Nat.le_trans h.lo m.size, h.z⟩
theorem refd (h : Mid w base N0 k b p q bT rk rO rT s1 s) (r : RClk w' base N0 rk rO rT s2) (m : Mod S w w') (hS : ∀ z, z ∈ S → z = rk ∨ z = rO ∨ z = rT) : Mid w' base N0 k b p q bT rk rO rT s1 s2 :=
  ⟨h.c.ref h.r m hS h.z, r, h.lk, h.lb, h.lT, Nat.le_trans h.lo m.size, h.z⟩
theorem rb (h : Mid w base N0 k b p q bT rk rO rT s1 s) : rO ≠ b := by obtain ⟨f, a⟩ := h.r.oArr; exact arr_ne a h.c.own.arr (by decide)
theorem rp (h : Mid w base N0 k b p q bT rk rO rT s1 s) : rO ≠ p := by obtain ⟨f, a⟩ := h.r.oArr; exact arr_ne a h.c.own.cp (by decide)
theorem rq (h : Mid w base N0 k b p q bT rk rO rT s1 s) : rO ≠ q := by obtain ⟨f, a⟩ := h.r.oArr; exact arr_ne a h.c.own.cq (by decide)
end Mid
abbrev six (k b bT rk rO rT : Nat) : List Nat := [k, b, bT, rk, rO, rT]
section
variable {base N0 k b p q bT rk rO rT : Nat} {s : St}

theorem mGiven1 (w : World) (x y c m n : Int) (h : Mid w base N0 k b p q bT rk rO rT s s) :
    Calls Tryd.prog 35 #[.pointer (some ⟨k, 0, none⟩), .agg #[.int .i64 x, .int .i64 y, .int .i64 c, .int .i64 m], .int .i64 n] w fun e w' =>
      e = .returned (.int .i64 (givenE s x y c m n)) ∧ Mid w' base N0 k b p q bT rk rO rT (givenS s x y c m n) s ∧ Mod (six k b bT rk rO rT) w w' :=
  (ckGiven_calls w k b p q bT s x y c m n h.c).mono fun e w' ⟨he, hc, hm⟩ => ⟨he, h.prog hc hm (by simp <;> omega), hm.mono (by simp)⟩
theorem mGiven2 (w : World) (x y c m n : Int) (h : Mid w base N0 k b p q bT rk rO rT (givenS s x y c m n) s) :
    Calls Tryd.prog 67 #[.pointer (some ⟨rk, 0, none⟩), .agg #[.int .i64 x, .int .i64 y, .int .i64 c, .int .i64 m], .int .i64 n] w fun e w' =>
      e = .returned (.int .i64 (givenE s x y c m n)) ∧ Mid w' base N0 k b p q bT rk rO rT (givenS s x y c m n) (givenS s x y c m n) ∧ Mod (six k b bT rk rO rT) w w' :=
  (rcGiven_calls w base N0 rk rO rT s x y c m n h.r h.lo).mono fun e w' ⟨he, hc, hm⟩ => ⟨he, h.refd hc hm (by simp <;> omega), hm.mono (by simp)⟩

def giveS (s : St) (x y : Int) (weak : Bool) : St := { s with t := setT s.t s.id x y (giveG weak) }
theorem mGive1 (w : World) (x y : Int) (weak : Bool) (h : Mid w base N0 k b p q bT rk rO rT s s) :
    Calls Tryd.prog 39 #[.pointer (some ⟨k, 0, none⟩), .agg #[.int .i64 x, .int .i64 y], .bool weak] w fun e w' =>
      ∃ v, e = .returned v ∧ Mid w' base N0 k b p q bT rk rO rT (giveS s x y weak) s ∧ Mod (six k b bT rk rO rT) w w' ∧ ∀ w'', Mod [rT] w' w'' → Hs w'' v (someL s.t x y (giveP s weak)) :=
  (ckGive_calls w k b p q bT s x y weak h.c).mono fun e w' ⟨v, he, ho, hc, hm⟩ =>
    have h' := h.prog hc hm (by simp <;> omega)
    ⟨v, he, h', hm.mono (by simp), fun w'' m' => hs_own (own_mod ho m' (hs_other h'.r.t ho))⟩
theorem mGive2 (w : World) (x y : Int) (weak : Bool) (h : Mid w base N0 k b p q bT rk rO rT (giveS s x y weak) s) :
    Calls Tryd.prog 68 #[.pointer (some ⟨rk, 0, none⟩), .agg #[.int .i64 x, .int .i64 y], .bool weak] w fun e w' =>
      ∃ v, e = .returned v ∧ Hs w' v (someL s.t x y (giveP s weak)) ∧ Mid w' base N0 k b p q bT rk rO rT (giveS s x y weak) (giveS s x y weak) ∧ Mod (six k b bT rk rO rT) w w' ∧ Mod [rT] w w' :=
  (rcGive_calls w base N0 rk rO rT s x y weak h.r h.lo).mono fun e w' ⟨v, he, ho, hc, hm⟩ => ⟨v, he, ho, h.refd hc hm (by simp <;> omega), hm.mono (by simp), hm⟩

theorem mAsk1 (w : World) (now : Int) (h : Mid w base N0 k b p q bT rk rO rT s s) :
    Calls Tryd.prog 32 #[.pointer (some ⟨b, 0, none⟩), .int .i64 now] w fun e w' =>
      e = .returned (.tuple #[.int .i64 (askV s.last now), .int .i64 (askE s.last now)]) ∧ Mid w' base N0 k b p q bT rk rO rT (askS s now) s ∧ Mod [b] w w' :=
  (ckAsk_calls w k b p q bT s now h.c).mono fun e w' ⟨he, hc, hm⟩ => ⟨he, h.prog hc hm (by simp <;> omega), hm⟩
theorem mAsk2 (w : World) (now : Int) (h : Mid w base N0 k b p q bT rk rO rT (askS s now) s) (hs : 0 ≤ s.last ∧ s.last ≤ 1099511627776 ∧ 0 ≤ s.got ∧ s.got ≤ s.last) :
    Calls Tryd.prog 69 #[.pointer (some ⟨rO, 0, none⟩), .int .i64 now] w fun e w' =>
      e = .returned (.tuple #[.int .i64 (askV s.last now), .int .i64 (askE s.last now)]) ∧ Mid w' base N0 k b p q bT rk rO rT (askS s now) (askS s now) ∧ Mod [rO] w w' :=
  (jAsk2 w b p q rO N0 s.num s.slack s.a s.last s.got s.till now h.c.own h.r.o h.lb h.rb h.rp h.rq hs.1 hs.2.1 hs.2.2.1 hs.2.2.2).mono fun e w' ⟨he, hj, hm⟩ => ⟨he, h.refd (h.r.owned hj.ref hm) hm (by simp <;> omega), hm⟩
theorem mGot1 (w : World) (seq len : Int) (h : Mid w base N0 k b p q bT rk rO rT s s) :
    Calls Tryd.prog 33 #[.pointer (some ⟨k, 0, none⟩), .int .i64 seq, .int .i64 len] w fun e w' =>
      e = .returned (.int .i64 (gotE s.last s.got seq len)) ∧ Mid w' base N0 k b p q bT rk rO rT (gotS s seq len) s ∧ Mod [b] w w' :=
  (ckGot_calls w k b p q bT s seq len h.c).mono fun e w' ⟨he, hc, hm⟩ => ⟨he, h.prog hc hm (by simp <;> omega), hm⟩
theorem mGot2 (w : World) (seq len : Int) (h : Mid w base N0 k b p q bT rk rO rT (gotS s seq len) s) (hs : 0 ≤ s.got ∧ s.got ≤ s.last ∧ -1 ≤ s.till ∧ s.till ≤ 2199023255552) :
    Calls Tryd.prog 70 #[.pointer (some ⟨rO, 0, none⟩), .int .i64 seq, .int .i64 len] w fun e w' =>
      e = .returned (.int .i64 (gotE s.last s.got seq len)) ∧ Mid w' base N0 k b p q bT rk rO rT (gotS s seq len) (gotS s seq len) ∧ Mod [rO] w w' :=
  (jGot2 w b p q rO N0 s.num s.slack s.a s.last s.got s.till seq len h.c.own h.r.o h.lb h.rb h.rp h.rq hs.1 hs.2.1 hs.2.2.1 hs.2.2.2).mono fun e w' ⟨he, hj, hm⟩ => ⟨he, h.refd (h.r.owned hj.ref hm) hm (by simp <;> omega), hm⟩

theorem mStamp1 (w : World) (h : Mid w base N0 k b p q bT rk rO rT s s) :
    Calls Tryd.prog 38 #[.pointer (some ⟨k, 0, none⟩)] w fun e w' =>
      e = .returned (.tuple #[.int .i64 (stampV s), .int .i64 (stampE s)]) ∧ Mid w' base N0 k b p q bT rk rO rT (stampS s) s ∧ Mod [k] w w' :=
  (ckStamp_calls w k b p q bT s h.c).mono fun e w' ⟨he, hc, hm⟩ => ⟨he, h.prog hc hm (by simp <;> omega), hm⟩
theorem mStamp2 (w : World) (h : Mid w base N0 k b p q bT rk rO rT (stampS s) s) (hs : 0 ≤ s.grant ∧ s.grant < 1048576 ∧ 0 ≤ s.told ∧ s.told ≤ 1048575) :
    Calls Tryd.prog 72 #[.pointer (some ⟨rk, 0, none⟩)] w fun e w' =>
      e = .returned (.tuple #[.int .i64 (stampV s), .int .i64 (stampE s)]) ∧ Mid w' base N0 k b p q bT rk rO rT (stampS s) (stampS s) ∧ Mod [rk] w w' :=
  (rcStamp_calls w base N0 rk rO rT s h.r hs.1 hs.2.1 hs.2.2.1 hs.2.2.2).mono fun e w' ⟨he, hc, hm⟩ => ⟨he, h.refd hc hm (by simp <;> omega), hm⟩

def loseS (s : St) : St := { s with got := s.last, till := -1, t := fun _ _ => 0 }
/-- Lost at the program's side: a new table there. -/
theorem mLose1 (w : World) (h : Mid w base N0 k b p q bT rk rO rT s s) :
    Calls Tryd.prog 36 #[.pointer (some ⟨k, 0, none⟩)] w fun e w' => e = .returned (.tuple #[]) ∧ ∃ bT', w.heap.size ≤ bT' ∧ bT' < w'.heap.size ∧ Clk w' k b p q bT' (loseS s) ∧ RClk w' base N0 rk rO rT s ∧ Mod [k, b] w w' :=
  (ckLose_calls w k b p q bT s h.c).mono fun e w' ⟨he, bT', hl, hc, hm⟩ => ⟨he, bT', hl, hc.tb.lt, hc, h.r.prog h.c hm (by simp <;> omega) h.lk h.lb h.lT, hm⟩
theorem mLose2 (w w1 : World) (bT' : Nat) (h : Mid w base N0 k b p q bT rk rO rT s s) (hc : Clk w1 k b p q bT' (loseS s)) (hr : RClk w1 base N0 rk rO rT s) (m : Mod [k, b] w w1) (hl : bT' < w1.heap.size) :
    Calls Tryd.prog 71 #[.pointer (some ⟨rk, 0, none⟩)] w1 fun e w' => e = .returned (.tuple #[]) ∧ ∃ rT', w.heap.size ≤ rT' ∧ Mid w' base w'.heap.size k b p q bT' rk rO rT' (loseS s) (loseS s) ∧ Mod [k, b, rk, rO] w w' :=
  (rcLose_calls w1 base N0 rk rO rT s hr (Nat.le_trans h.lo m.size)).mono fun e w' ⟨he, rT', hl', hc', hm⟩ => by
    have s1 := m.size
    have s2 := hm.size
    have hN := hr.o.hi
    have hk := h.lk
    have hb := h.lb
    have h0 := h.lo
    have hz := h.z
    have hwk := h.c.arr.lt
    refine ⟨he, rT', by omega, ⟨hc.ref hr hm (by simp <;> omega) hz, hc', by omega, by omega, by omega, by omega, hz.1, hz.2.1, by omega⟩, (m.mono (by simp) : Mod [k, b, rk, rO] w w1).trans (hm.mono (by simp))⟩
end
end Go.Proofs.YtkajedgghoboaaaDoor
