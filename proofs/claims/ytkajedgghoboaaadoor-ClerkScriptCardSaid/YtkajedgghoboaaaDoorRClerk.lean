/- The document's clerk in memory (weirkeepref20), beside the program's; New, Left, May, Stamp, Lose of it. No condition beyond what stands in each. -/
import Derived.Test.YtkajedgghoboaaaDoorClerk3
import Derived.Test.YtkajedgghoboaaaDoorOwnJ
import Derived.Test.YtkajedgghoboaaaDoorDoes
namespace Go.Proofs.YtkajedgghoboaaaDoor
open Go.RowKit
set_option linter.unusedVariables false
set_option linter.unusedSimpArgs false
attribute [local go_sem ↓] Go.wp_at_zero Go.wp_at_succ

def rkF (id : Int) (rO rT : Nat) (grant told : Int) (j : Nat) : Value := if j = 0 then .int .i64 id else if j = 1 then .pointer (some ⟨rO, 0, none⟩) else if j = 2 then .pointer (some ⟨rT, 0, none⟩) else if j = 3 then .int .i64 grant else .int .i64 told
/-- The document's clerk at block rk; its own lease, its table. -/
structure RClk (w : World) (base N0 rk rO rT : Nat) (s : St) : Prop where
  r : Arr w rk 81 5 (rkF s.id rO rT s.grant s.told)
  o : RO w rO N0 s.num s.slack s.last (nV s.last s.got) (sV s.last s.got) (gV s.a s.last s.got) s.till
  t : RTab w base rT s.t
  lk : rk < N0
  lt : rT < N0
theorem rtab_arr {w : World} {base r : Nat} {t : Nat → Nat → Nat} (h : RTab w base r t) : ∃ f, Arr w r 42 1 f := by
  obtain ⟨v, hb, _⟩ := h.ex
  refine ⟨fun _ => v, #[v], hb, by simp, fun i hi => ?_⟩
  obtain rfl : i = 0 := by omega
  rfl
theorem not_in3 {S : List Nat} {a b c k : Nat} (hS : ∀ z, z ∈ S → z = a ∨ z = b ∨ z = c) (n1 : k ≠ a) (n2 : k ≠ b) (n3 : k ≠ c) : k ∉ S := fun e => (hS _ e).elim n1 (fun h => h.elim n2 n3)
namespace RClk
variable {w w' : World} {base N0 rk rO rT k b p q bT : Nat} {s s0 : St}
theorem oArr (h : RClk w base N0 rk rO rT s) : ∃ f, Arr w rO 102 5 f := by obtain ⟨v, h1, _⟩ := h.o.ex; exact ⟨_, h1⟩
theorem same (h : RClk w base N0 rk rO rT s) (m : Mod [] w w') : RClk w' base N0 rk rO rT s := ⟨h.r.mod m (by simp), h.o.mod0 m, h.t.same m, h.lk, h.lt⟩
theorem n1 (h : RClk w base N0 rk rO rT s) : rk ≠ rO := by obtain ⟨f, h1⟩ := h.oArr; exact arr_ne h.r h1 (by decide)
theorem n2 (h : RClk w base N0 rk rO rT s) : rk ≠ rT := by obtain ⟨f, h1⟩ := rtab_arr h.t; exact arr_ne h.r h1 (by decide)
theorem n3 (h : RClk w base N0 rk rO rT s) : rO ≠ rT := by obtain ⟨f, h1⟩ := rtab_arr h.t; obtain ⟨g, h2⟩ := h.oArr; exact arr_ne h2 h1 (by decide)
/-- The program's side has changed. -/
theorem prog (h : RClk w base N0 rk rO rT s) (c : Clk w k b p q bT s0) {S : List Nat} (m : Mod S w w') (hS : ∀ z, z ∈ S → z = k ∨ z = b ∨ z = bT) (lk : k < N0) (lb : b < N0) (lT : bT < N0) : RClk w' base N0 rk rO rT s := by
  obtain ⟨f1, a1⟩ := h.oArr
  obtain ⟨f2, a2⟩ := rtab_arr h.t
  have e1 := arr_ne h.r c.arr (by decide)
  have e2 := arr_ne h.r c.own.arr (by decide)
  have e3 := arr_ne h.r c.tb.arr (by decide)
  have e4 := arr_ne a1 c.arr (by decide)
  have e5 := arr_ne a1 c.own.arr (by decide)
  have e6 := arr_ne a1 c.tb.arr (by decide)
  have e7 := arr_ne a2 c.arr (by decide)
  have e8 := arr_ne a2 c.own.arr (by decide)
  have e9 := arr_ne a2 c.tb.arr (by decide)
  refine ⟨h.r.mod m (not_in3 hS e1 e2 e3), h.o.mod m (not_in3 hS e4 e5 e6) (fun x hx => by rcases hS _ hx with h | h | h <;> rw [h] <;> assumption), h.t.mod m (not_in3 hS e7 e8 e9) (fun z hz => .inr (.inr ?_)), h.lk, h.lt⟩
  rcases hS z hz with rfl | rfl | rfl
  · obtain ⟨cs, h1, _, _⟩ := c.arr; exact ⟨cs, _, h1, by decide⟩
  · obtain ⟨cs, h1, _, _⟩ := c.own.arr; exact ⟨cs, _, h1, by decide⟩
  · obtain ⟨cs, h1, _, _⟩ := c.tb.arr; exact ⟨cs, _, h1, by decide⟩
theorem c0 (h : RClk w base N0 rk rO rT s) : w.cell? ⟨rk, 0, none⟩ = some (.int .i64 s.id) := h.r.cell 0 (by omega)
theorem c1 (h : RClk w base N0 rk rO rT s) : w.cell? ⟨rk, 1, none⟩ = some (.pointer (some ⟨rO, 0, none⟩)) := h.r.cell 1 (by omega)
theorem c2 (h : RClk w base N0 rk rO rT s) : w.cell? ⟨rk, 2, none⟩ = some (.pointer (some ⟨rT, 0, none⟩)) := h.r.cell 2 (by omega)
theorem c3 (h : RClk w base N0 rk rO rT s) : w.cell? ⟨rk, 3, none⟩ = some (.int .i64 s.grant) := h.r.cell 3 (by omega)
theorem c4 (h : RClk w base N0 rk rO rT s) : w.cell? ⟨rk, 4, none⟩ = some (.int .i64 s.told) := h.r.cell 4 (by omega)
theorem cT (h : RClk w base N0 rk rO rT s) : w.cell? ⟨rO, 4, none⟩ = some (.int .i64 s.till) := by obtain ⟨v, h1, _⟩ := h.o.ex; exact h1.cell 4 (by omega)
/-- Its own struct's cells have changed. -/
theorem cells (h : RClk w base N0 rk rO rT s) (m : Mod [rk] w w') {s' : St} (hr : Arr w' rk 81 5 (rkF s'.id rO rT s'.grant s'.told)) (hs : s'.num = s.num ∧ s'.slack = s.slack ∧ s'.a = s.a ∧ s'.last = s.last ∧ s'.got = s.got ∧ s'.till = s.till ∧ s'.t = s.t) : RClk w' base N0 rk rO rT s' := by
  obtain ⟨e1, e2, e3, e4, e5, e6, e7⟩ := hs
  have hty : ∀ z, z ∈ [rk] → z < base ∨ w.heap.size ≤ z ∨ ∃ cs T, w.heap[z]? = some (.cells cs T (0, 0)) ∧ T ≠ 31 := by
    intro z hz
    have e' : z = rk := by simpa using hz
    subst e'
    obtain ⟨cs, h1, _, _⟩ := h.r
    exact .inr (.inr ⟨cs, _, h1, by decide⟩)
  have ht := h.t.mod m (by simpa using fun e => h.n2 e.symm) hty
  exact ⟨hr, by rw [e1, e2, e3, e4, e5, e6]; exact h.o.mod m (by simpa using fun e => h.n1 e.symm) (fun x hx => by simp at hx; have := h.lk; omega), by rw [e7]; exact ht, h.lk, h.lt⟩
/-- Its table has changed. -/
theorem tabled (h : RClk w base N0 rk rO rT s) {t : Nat → Nat → Nat} (ht : RTab w' base rT t) (m : Mod [rT] w w') : RClk w' base N0 rk rO rT { s with t := t } :=
  ⟨h.r.mod m (by simpa using h.n2), h.o.mod m (by simpa using h.n3) (fun x hx => by simp at hx; have := h.lt; omega), ht, h.lk, h.lt⟩
/-- Its own lease has changed. -/
theorem owned (h : RClk w base N0 rk rO rT s) {a : Nat → Int} {last got till : Int} (ho : RO w' rO N0 s.num s.slack last (nV last got) (sV last got) (gV a last got) till) (m : Mod [rO] w w') : RClk w' base N0 rk rO rT { s with a := a, last := last, got := got, till := till } := by
  refine ⟨h.r.mod m (by simpa using h.n1), ho, h.t.mod m (by simpa using fun e => h.n3 e.symm) (fun z hz => .inr (.inr ?_)), h.lk, h.lt⟩
  have e' : z = rO := by simpa using hz
  subst e'
  obtain ⟨f, cs, h1, _, _⟩ := h.oArr
  exact ⟨cs, _, h1, by decide⟩
end RClk
/-- The document's side has changed. -/
theorem Clk.ref {w w' : World} {base N0 rk rO rT k b p q bT : Nat} {s s0 : St} (c : Clk w k b p q bT s) (h : RClk w base N0 rk rO rT s0) {S : List Nat} (m : Mod S w w') (hS : ∀ z, z ∈ S → z = rk ∨ z = rO ∨ z = rT) (h0 : 0 < rk ∧ 0 < rO ∧ 0 < rT) : Clk w' k b p q bT s := by
  obtain ⟨f1, a1⟩ := h.oArr
  obtain ⟨f2, a2⟩ := rtab_arr h.t
  have x1 := arr_ne h.r c.arr (by decide)
  have x2 := arr_ne h.r c.own.arr (by decide)
  have x3 := arr_ne h.r c.own.cp (by decide)
  have x4 := arr_ne h.r c.own.cq (by decide)
  have x5 := arr_ne h.r c.tb.arr (by decide)
  have y1 := arr_ne a1 c.arr (by decide)
  have y2 := arr_ne a1 c.own.arr (by decide)
  have y3 := arr_ne a1 c.own.cp (by decide)
  have y4 := arr_ne a1 c.own.cq (by decide)
  have y5 := arr_ne a1 c.tb.arr (by decide)
  have z1 := arr_ne a2 c.arr (by decide)
  have z2 := arr_ne a2 c.own.arr (by decide)
  have z3 := arr_ne a2 c.own.cp (by decide)
  have z4 := arr_ne a2 c.own.cq (by decide)
  have z5 := arr_ne a2 c.tb.arr (by decide)
  exact c.mod m (not_in3 hS (by omega) (by omega) (by omega)) (not_in3 hS x1.symm y1.symm z1.symm) (not_in3 hS x2.symm y2.symm z2.symm) (not_in3 hS x3.symm y3.symm z3.symm) (not_in3 hS x4.symm y4.symm z4.symm) (not_in3 hS x5.symm y5.symm z5.symm)

theorem ro_rebase {w : World} {b N0 N1 : Nat} {num slack last : Int} {s g : Nat → Int} {till : Int} (h : RO w b N0 num slack last 0 s g till) (h1 : b < N1) (h2 : N1 ≤ w.heap.size) : RO w b N1 num slack last 0 s g till := by
  obtain ⟨v, a1, A, cap, e1, e2, e3, e4⟩ := h.ex
  exact ⟨⟨v, a1, A, cap, e1, e2, e3, fun h => absurd h (by omega)⟩, h1, h2⟩
theorem rcNew_calls (w : World) (id num slack : Int) :
    Calls Tryd.prog 40 #[.int .i64 id, .int .i64 num, .int .i64 slack] w fun e w' => ∃ rk rO rT, e = .returned (.pointer (some ⟨rk, 0, none⟩)) ∧ RClk w' w.heap.size w'.heap.size rk rO rT (stNew id num slack) ∧ Mod [] w w' ∧
      w.heap.size ≤ rk ∧ w.heap.size ≤ rO ∧ w.heap.size ≤ rT := by
  go_enter Tryd.func40, Tryd.ntmps40
  go_wp2_with fail
  refine (roNew_calls w num slack (sV 0 0) (gV (fun _ => 0) 0 0)).mono ?_
  rintro e w1 ⟨rfl, hO, m1⟩
  have s1 := hO.lt
  have HO := Lib.hid hO
  have HM1 := Lib.hid m1
  clear hO m1
  go_wp2
  go_ret
  have m2 : Mod [] w1 (w1.alloc (.cells #[.slice none 0 0] 42)) := (Mod.refl [] w1).alloc _
  have m3 : Mod [] w1 ((w1.alloc (.cells #[.slice none 0 0] 42)).alloc (.cells #[.int .i64 id, .pointer (some ⟨w.heap.size, 0, none⟩), .pointer (some ⟨w1.heap.size, 0, none⟩), .int .i64 0, .int .i64 0] 81)) := m2.alloc _
  have hb : Boxed (w1.alloc (.cells #[.slice none 0 0] 42)) w1.heap.size 42 (.slice none 0 0) := Boxed.new _ _ _
  have e2 : (w1.alloc (.cells #[.slice none 0 0] 42)).heap.size = w1.heap.size + 1 := by simp
  have ln : listL (fun _ _ => 0) = [] := holds_none 8 (fun _ _ _ _ _ => rfl)
  have a3 := Arr.new' (w1.alloc (.cells #[.slice none 0 0] 42)) #[.int .i64 id, .pointer (some ⟨w.heap.size, 0, none⟩), .pointer (some ⟨w1.heap.size, 0, none⟩), .int .i64 0, .int .i64 0] 81 5 (rkF id w.heap.size w1.heap.size 0 0) rfl (fun i hi => by
    match i, hi with
    | 0, _ | 1, _ | 2, _ | 3, _ | 4, _ => rfl)
  rw [e2] at a3
  have ho : RO ((w1.alloc (.cells #[.slice none 0 0] 42)).alloc (.cells #[.int .i64 id, .pointer (some ⟨w.heap.size, 0, none⟩), .pointer (some ⟨w1.heap.size, 0, none⟩), .int .i64 0, .int .i64 0] 81)) w.heap.size _ num slack 0 0 (sV 0 0) (gV (fun _ => 0) 0 0) (-1) := HO.out.mod0 m3
  refine ⟨w1.heap.size + 1, w.heap.size, w1.heap.size, by simp, ⟨a3, ?_, ⟨⟨_, boxMod hb ((Mod.refl [] _).alloc _) (by simp), by show World.ownsRow _ _ _ _ _ (listL (fun _ _ => 0)).length (hcells (listL (fun _ _ => 0))); rw [ln]; exact own_nil _ _ _ _⟩, fun _ _ => by show (0 : Nat) ≤ 2; omega⟩, by simp, by simp; omega⟩, HM1.out.trans m3, by omega, by omega, by omega⟩
  exact ro_rebase ho (by simp; omega) (Nat.le_refl _)
end Go.Proofs.YtkajedgghoboaaaDoor
