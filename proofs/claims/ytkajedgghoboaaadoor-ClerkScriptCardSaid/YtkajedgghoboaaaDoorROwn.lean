/- What the calls of the document's own answer for a client's lease (weirkeepref16) come to. No condition beyond what stands in each. -/
import Derived.Test.YtkajedgghoboaaaDoorProg
import Derived.Test.YtkajedgghoboaaaDoorLib
import Derived.Test.YtkajedgghoboaaaDoorMarg
import Derived.Test.YtkajedgghoboaaaDoorTime16
import Derived.Maps.AppendAt
namespace Go.Proofs.YtkajedgghoboaaaDoor
open Go.RowKit
set_option linter.unusedVariables false
set_option linter.unusedSimpArgs false
attribute [local go_sem ↓] Go.wp_at_zero Go.wp_at_succ

/-- The n numbers that are known, the i-th s i, asked for at g i; not in block b. -/
def LsA (w : World) (v : Value) (n N0 : Nat) (s g : Nat → Int) : Prop :=
  ∃ A cap, v = .slice A n cap ∧ n ≤ cap ∧ cap ≤ maxLen ∧ (0 < n → ∃ k off, A = some ⟨k, off, none⟩ ∧ N0 ≤ k ∧ ∀ i, i < n → w.cell? ⟨k, off + 2 * i, none⟩ = some (.int .i64 (s i)) ∧ w.cell? ⟨k, off + 2 * i + 1, none⟩ = some (.int .i64 (g i)))
theorem LsA.mod {w w' : World} {v : Value} {n N0 : Nat} {s g : Nat → Int} {S : List Nat} (h : LsA w v n N0 s g) (m : Mod S w w') (hS : ∀ x, x ∈ S → x < N0) : LsA w' v n N0 s g := by
  obtain ⟨A, cap, h1, h2, h3, h4⟩ := h
  refine ⟨A, cap, h1, h2, h3, fun hn => ?_⟩
  obtain ⟨k, off, e1, e2, e3⟩ := h4 hn
  have hk : k ∉ S := fun e => by have := hS k e; omega
  exact ⟨k, off, e1, e2, fun i hi => ⟨m.cell' (e3 i hi).1 hk, m.cell' (e3 i hi).2 hk⟩⟩
def roF (num slack last : Int) (v : Value) (till : Int) (j : Nat) : Value :=
  if j = 0 then .int .i64 num else if j = 1 then .int .i64 slack else if j = 2 then .int .i64 last else if j = 3 then v else .int .i64 till
/-- The document's lease at block b. -/
structure RO (w : World) (b N0 : Nat) (num slack last : Int) (n : Nat) (s g : Nat → Int) (till : Int) : Prop where
  ex : ∃ v, Arr w b 102 5 (roF num slack last v till) ∧ LsA w v n N0 s g
  lo : b < N0
  hi : N0 ≤ w.heap.size
namespace RO
variable {w w' : World} {b N0 : Nat} {num slack last : Int} {n : Nat} {s g : Nat → Int} {till : Int}
theorem lt (h : RO w b N0 num slack last n s g till) : b < w.heap.size := by
  obtain ⟨v, h1, h2⟩ := h.ex
  exact h1.lt
theorem mod {S : List Nat} (h : RO w b N0 num slack last n s g till) (m : Mod S w w') (hb : b ∉ S) (hS : ∀ x, x ∈ S → x < N0) : RO w' b N0 num slack last n s g till := by
  obtain ⟨v, h1, h2⟩ := h.ex
  exact ⟨⟨v, h1.mod m hb, h2.mod m hS⟩, h.lo, Nat.le_trans h.hi m.size⟩
theorem mod0 (h : RO w b N0 num slack last n s g till) (m : Mod [] w w') : RO w' b N0 num slack last n s g till := h.mod m (by simp) (by simp)
end RO
theorem lsa_nil (w : World) (b : Nat) (s g : Nat → Int) : LsA w (.slice none 0 0) 0 b s g := ⟨none, 0, rfl, Nat.le_refl _, Nat.zero_le _, fun h => absurd h (by omega)⟩
theorem roNew_calls (w : World) (num slack : Int) (s g : Nat → Int) :
    Calls Tryd.prog 66 #[.int .i64 num, .int .i64 slack] w fun e w' => e = .returned (.pointer (some ⟨w.heap.size, 0, none⟩)) ∧
      RO w' w.heap.size (w.heap.size + 1) num slack 0 0 s g (-1) ∧ Mod [] w w' := by
  go_enter Tryd.func66, Tryd.ntmps66
  go_wp2
  go_ret
  refine ⟨rfl, ⟨⟨.slice none 0 0, ?_, lsa_nil _ _ _ _⟩, by omega, by simp⟩, (Mod.refl _ _).alloc _⟩
  exact Arr.new' w #[.int .i64 num, .int .i64 slack, .int .i64 0, .slice none 0 0, .int .i64 (-1)] 102 5 _ rfl (fun i hi => by
    match i, hi with
    | 0, _ | 1, _ | 2, _ | 3, _ | 4, _ => rfl
    | n + 5, h => exact absurd h (by omega))
theorem roGood_calls (w : World) (b N0 : Nat) (num slack last : Int) (n : Nat) (s g : Nat → Int) (till now : Int) (h : RO w b N0 num slack last n s g till) :
    Calls Tryd.prog 73 #[.pointer (some ⟨b, 0, none⟩), .int .i64 now] w fun e w' => e = .returned (.bool (decide (now ≤ till))) ∧ w = w' := by
  obtain ⟨v, hA, hL⟩ := h.ex
  have c : w.cell? ⟨b, 4, none⟩ = some (.int .i64 till) := hA.cell 4 (by omega)
  go_enter Tryd.func73, Tryd.ntmps73
  go_wp2
  all_goals go_ret
  all_goals exact ⟨by simp, rfl⟩
theorem roLose_calls (w : World) (b N0 : Nat) (num slack last : Int) (n : Nat) (s g s' g' : Nat → Int) (till : Int) (h : RO w b N0 num slack last n s g till) :
    Calls Tryd.prog 82 #[.pointer (some ⟨b, 0, none⟩)] w fun e w' => e = .returned (.tuple #[]) ∧ RO w' b N0 num slack last 0 s' g' (-1) ∧ Mod [b] w w' := by
  obtain ⟨v, hA, hL⟩ := h.ex
  have f3 := hA.free 3
  have f4 := hA.free 4
  have c3 : w.cell? ⟨b, 3, none⟩ = some v := hA.cell 3 (by omega)
  have c4 : w.cell? ⟨b, 4, none⟩ = some (.int .i64 till) := hA.cell 4 (by omega)
  have E := Lib.hid ((hA.set 4 (.int .i64 (-1))).set 3 (.slice none 0 0))
  go_enter Tryd.func82, Tryd.ntmps82
  go_wp2
  go_end0
  refine ⟨rfl, ⟨⟨.slice none 0 0, E.out.congr fun j hj => ?_, lsa_nil _ _ _ _⟩, h.lo, by simpa using h.hi⟩, ((Mod.refl _ _).setCell (by simp) _).setCell (by simp) _⟩
  match j, hj with
  | 0, _ | 1, _ | 2, _ | 3, _ | 4, _ => rfl
  | n + 5, h => exact absurd h (by omega)

theorem app_nil' (w : World) (k c : Nat) : (Builtin.append_ #[100, 100] 100 #[.slice (some ⟨k, 0, none⟩) 0 0, .slice none 0 c]).run Tryd.prog w = .ok (.slice (some ⟨k, 0, none⟩) 0 0) w := by
  kernel_rfl
theorem app_nil (w : World) (k : Nat) : (Builtin.append_ #[100, 100] 100 #[.slice (some ⟨k, 0, none⟩) 0 0, .slice none 0 0]).run Tryd.prog w = .ok (.slice (some ⟨k, 0, none⟩) 0 0) w := by
  kernel_rfl
theorem wpList_app_run {P : Program} {ops : Array Oper} {rest : List Oper} {o : Oper} {a : Act} {Q : Exit → Act → World → Prop} {w : World} (hgd : o.guard = none) (s x : Operand) (t : TypeId)
    (ho : o.op = .call { callee := .builtin .append, args := #[s, x], argTypes := #[t, t] }) (v xv : Value) (hs : a.eval s = v) (hx : a.eval x = xv) (v' : Value) (w' : World)
    (hr : (Builtin.append_ #[t, t] o.type #[v, xv]).run P w = .ok v' w') (h : wpList P ops Q rest (a.put o.dst v') w') : wpList P ops Q (o :: rest) a w :=
  wpList_plain hgd fun _ hK => by
    unfold Oper.wp execOp
    simp only [ho, resolve, invoke, builtin, Sem.run_bind, Sem.run_pure, Result.andThen_ok, List.map_toArray, List.map_cons, List.map_nil, hs, hx, hr]
    exact hK _ _ h
/-- The cells of the numbers. -/
def cellF (s g : Nat → Int) (m : Nat) : Value := if m % 2 = 0 then .int .i64 (s (m / 2)) else .int .i64 (g (m / 2))
def cellsL (s g : Nat → Int) (n : Nat) : List Value := (List.range (n * 2)).map (cellF s g)
theorem asked_info : (Tryd.prog.info? 112).map (fun i => (i.zero, i.size, i.bytes)) = some (some (.agg #[.int .i64 0, .int .i64 0]), 2, 16) := by kernel_rfl
theorem cellsL_one (s g : Nat → Int) (n : Nat) : ∀ u ∈ cellsL s g n, u.oneCell' = true := by
  intro u hu
  obtain ⟨m, _, rfl⟩ := List.mem_map.1 hu
  unfold cellF
  split <;> rfl
/-- append([]Asked{}, o.L...) -/
theorem app_all (w : World) (k b : Nat) (v : Value) (n : Nat) (s g : Nat → Int) (h : LsA w v n b s g) (hn : n ≤ 1000)
    (hk : w.ownsRow k 112 2 (.slice (some ⟨k, 0, none⟩) 0 0) 0 []) (hkw : k < w.heap.size) :
    ∃ v' w', (Builtin.append_ #[100, 100] 100 #[.slice (some ⟨k, 0, none⟩) 0 0, v]).run Tryd.prog w = .ok v' w' ∧
      w'.ownsRow k 112 2 v' n (cellsL s g n) ∧ Mod [k] w w' := by
  obtain ⟨A, cap, rfl, h1, h2, h3⟩ := h
  obtain ⟨i, hi, hz, hs', hb⟩ := info_parts asked_info
  cases A with
  | none =>
    have : n = 0 := by
      rcases Nat.eq_zero_or_pos n with h0 | h0
      · exact h0
      · obtain ⟨k, off, e, _⟩ := h3 h0
        cases e
    subst this
    exact ⟨.slice (some ⟨k, 0, none⟩) 0 0, w, app_nil' w k cap, by simpa [cellsL] using hk, Mod.refl _ _⟩
  | some a =>
    obtain ⟨v', w', r1, r2, r3, _, _⟩ := run_append_own_at (P := Tryd.prog) w k 100 100 112 i _ 2 16 Tryd.underlying100 hi hz hs' hb rfl (by omega)
      (.slice (some ⟨k, 0, none⟩) 0 0) 0 [] hk a n cap (cellsL s g n) (by simp [cellsL]) (fun j u hj => by
        have hjl : j < n * 2 := by
          have := (List.getElem?_eq_some_iff.1 hj).1
          simpa [cellsL] using this
        obtain ⟨k', off, e, _, hc⟩ := h3 (by omega)
        cases e
        have hu : u = cellF s g j := by
          simp [cellsL, hjl] at hj
          exact hj.symm
        have e1 : (⟨k', off, none⟩ : Addr).add j = ⟨k', off + j, none⟩ := by
          unfold Addr.add
          by_cases z : j = 0 <;> simp [z]
        rw [e1, hu]
        have := hc (j / 2) (by omega)
        unfold cellF
        split
        · rename_i hm
          have e2 : off + j = off + 2 * (j / 2) := by omega
          rw [e2]; exact this.1
        · rename_i hm
          have e2 : off + j = off + 2 * (j / 2) + 1 := by omega
          rw [e2]; exact this.2) (cellsL_one s g n) (by unfold maxLen; omega) (by omega) (by omega)
    refine ⟨v', w', r1, by simpa using r2, ?_⟩
    have := mod_grown r3
    simpa [Value.ownBlock] using this
theorem cells_get (s g : Nat → Int) (n m : Nat) (h : m < n * 2) : (cellsL s g n).getD m undef = cellF s g m := by
  simp [cellsL, h]
/-- A row of the call's own, as the numbers: from the d-th on. -/
theorem own_lsa {w : World} {base k n d N0 : Nat} {cap : Nat} {xs : List Value} {s g : Nat → Int} (h : w.ownsRow base 112 2 (.slice (some ⟨k, 0, none⟩) n cap) n xs) (hb : N0 ≤ base) (hd : d ≤ n)
    (hx : ∀ i, d ≤ i → i < n → xs.getD (i * 2) undef = .int .i64 (s (i - d)) ∧ xs.getD (i * 2 + 1) undef = .int .i64 (g (i - d))) :
    LsA w (.slice (some ⟨k, d * 2, none⟩) (n - d) (cap - d)) (n - d) N0 s g := by
  rcases Nat.eq_zero_or_pos n with h0 | h0
  · subst h0
    obtain ⟨h1, h2 | ⟨g', cap', cur, he, hg, hh, hc, hm, r⟩⟩ := h
    · cases h2.1
    · cases he
      exact ⟨_, _, rfl, by omega, by omega, fun h => absurd h (by omega)⟩
  · obtain ⟨g', cap', he, hg, hc, hm, ha⟩ := own_arr h h0
    cases he
    refine ⟨_, _, rfl, by omega, by omega, fun hn => ⟨k, d * 2, rfl, by omega, fun i hi => ?_⟩⟩
    have := hx (d + i) (by omega) (by omega)
    rw [show d + i - d = i by omega] at this
    refine ⟨?_, ?_⟩
    · have e := (ha.cell ((d + i) * 2) (by omega)).trans (congrArg some this.1)
      have e2 : d * 2 + 2 * i = (d + i) * 2 := by omega
      rw [e2]
      exact e
    · have e := (ha.cell ((d + i) * 2 + 1) (by omega)).trans (congrArg some this.2)
      have e2 : d * 2 + 2 * i + 1 = (d + i) * 2 + 1 := by omega
      rw [e2]
      exact e
theorem own_cap {w : World} {base e size n k cap m : Nat} {xs : List Value} (h : w.ownsRow base e size (.slice (some ⟨k, 0, none⟩) n cap) m xs) : n ≤ cap ∧ cap ≤ 9223372036854775807 := by
  obtain ⟨_, h2 | ⟨g', cap', cur, he, _, _, hc, hm, _⟩⟩ := h
  · cases h2.1
  · cases he
    unfold maxLen at hm
    exact ⟨hc, by omega⟩
def raskE (last now : Int) : Int := if okT now = false then 1 else if 1099511627776 ≤ last then 6 else 0
def raskN (n : Nat) (last now : Int) : Nat := if raskE last now = 0 then (if n = 16 then 16 else n + 1) else n
/-- One more behind them; of seventeen the first one falls. -/
def addN (s : Nat → Int) (n : Nat) (y : Int) : Nat → Int := fun i => if n = 16 then (if i = 15 then y else s (i + 1)) else (if i = n then y else s i)
def RaskPost (w : World) (b N0 : Nat) (num slack last : Int) (n : Nat) (s g : Nat → Int) (till now : Int) (e : Ending) (w' : World) : Prop :=
  e = .returned (.tuple #[.int .i64 (if raskE last now = 0 then last + 1 else 0), .int .i64 (raskE last now)]) ∧
    (if raskE last now = 0 then RO w' b N0 num slack (last + 1) (if n = 16 then 16 else n + 1) (addN s n (last + 1)) (addN g n now) till else RO w' b N0 num slack last n s g till) ∧ Mod [b] w w'
theorem rask_fail {w w' : World} {b N0 : Nat} {num slack last : Int} {n : Nat} {s g : Nat → Int} {till now x : Int} (h : RO w b N0 num slack last n s g till) (hx : raskE last now = x) (h0 : x ≠ 0) (m : Mod [] w w') :
    RaskPost w b N0 num slack last n s g till now (.returned (.tuple #[.int .i64 0, .int .i64 x])) w' := by
  have hne : ¬ raskE last now = 0 := by rw [hx]; exact h0
  refine ⟨by rw [if_neg hne, hx], ?_, m.nil⟩
  rw [if_neg hne]
  exact h.mod0 m
theorem add_lo (s g : Nat → Int) (n : Nat) (x y : Int) : ∀ i, i < n → (cellsL s g n ++ [Value.int .i64 x, .int .i64 y]).getD (i * 2) undef = .int .i64 (s i) ∧ (cellsL s g n ++ [Value.int .i64 x, .int .i64 y]).getD (i * 2 + 1) undef = .int .i64 (g i) := by
  intro i hi
  have hl : (cellsL s g n).length = n * 2 := by simp [cellsL]
  have a1 := cells_get s g n (i * 2) (by omega)
  have a2 := cells_get s g n (i * 2 + 1) (by omega)
  rw [List.getD_eq_getElem?_getD] at a1 a2 ⊢
  rw [List.getD_eq_getElem?_getD, List.getElem?_append_left (by omega), List.getElem?_append_left (by omega), a1, a2]
  have e1 : i * 2 % 2 = 0 := by omega
  have e2 : i * 2 / 2 = i := by omega
  have e3 : ¬ (i * 2 + 1) % 2 = 0 := by omega
  have e4 : (i * 2 + 1) / 2 = i := by omega
  simp only [cellF, e1, e2, e3, e4, if_true, if_false]
  exact ⟨trivial, trivial⟩
theorem add_hi (s g : Nat → Int) (n : Nat) (x y : Int) : (cellsL s g n ++ [Value.int .i64 x, .int .i64 y]).getD (n * 2) undef = .int .i64 x ∧ (cellsL s g n ++ [Value.int .i64 x, .int .i64 y]).getD (n * 2 + 1) undef = .int .i64 y := by
  have hl : (cellsL s g n).length = n * 2 := by simp [cellsL]
  rw [List.getD_eq_getElem?_getD, List.getD_eq_getElem?_getD, List.getElem?_append_right (by omega), List.getElem?_append_right (by omega), hl]
  have e1 : n * 2 - n * 2 = 0 := by omega
  have e2 : n * 2 + 1 - n * 2 = 1 := by omega
  rw [e1, e2]
  exact ⟨rfl, rfl⟩
theorem rask_ok {w w3 : World} {b N0 : Nat} {num slack last : Int} {n : Nat} {s g : Nat → Int} {till now : Int} {v v' : Value} (e0 : raskE last now = 0)
    (hA : Arr w3 b 102 5 (fun j => if j = 2 then .int .i64 (last + 1) else roF num slack last v till j))
    (hL : LsA w3 v' (if n = 16 then 16 else n + 1) N0 (addN s n (last + 1)) (addN g n now)) (m : Mod [b] w w3) (lo : b < N0) (hi : N0 ≤ w3.heap.size) :
    RaskPost w b N0 num slack last n s g till now (.returned (.tuple #[.int .i64 (last + 1), .int .i64 0])) (w3.setCell ⟨b, 3, none⟩ v') := by
  have m3 : Mod [b] w3 (w3.setCell ⟨b, 3, none⟩ v') := (Mod.refl _ _).setCell (by simp) _
  refine ⟨by rw [if_pos e0, e0], ?_, m.trans m3⟩
  rw [if_pos e0]
  refine ⟨⟨v', (hA.set 3 v').congr fun j hj => ?_, hL.mod m3 (by intro x hx; simp at hx; omega)⟩, lo, by simpa using hi⟩
  match j, hj with
  | 0, _ | 1, _ | 2, _ | 3, _ | 4, _ => rfl
  | n + 5, h => exact absurd h (by omega)
theorem lsa_lt {w3 : World} {base N0 n g1 cap1 : Nat} {s g : Nat → Int} {x y : Int} (h : w3.ownsRow base 112 2 (.slice (some ⟨g1, 0, none⟩) (n + 1) cap1) (n + 1) (cellsL s g n ++ [.int .i64 x, .int .i64 y])) (hb : N0 ≤ base) (hn : n < 16) :
    LsA w3 (.slice (some ⟨g1, 0, none⟩) (n + 1) cap1) (if n = 16 then 16 else n + 1) N0 (addN s n x) (addN g n y) := by
  rw [if_neg (by omega)]
  have hs : ∀ (f : Nat → Int) (z : Int) (i : Nat), addN f n z i = if i = n then z else f i := by
    intro f z i
    unfold addN
    rw [if_neg (by omega)]
  have := own_lsa (d := 0) (n := n + 1) (s := addN s n x) (g := addN g n y) h hb (by omega) (fun i _ hi => by
    rw [Nat.sub_zero, hs, hs]
    by_cases e : i = n
    · rw [if_pos e, if_pos e, e]
      exact add_hi s g n x y
    · rw [if_neg e, if_neg e]
      exact add_lo s g n x y i (by omega))
  simpa using this
theorem lsa_ge {w3 : World} {base N0 g1 cap1 : Nat} {s g : Nat → Int} {x y : Int} (h : w3.ownsRow base 112 2 (.slice (some ⟨g1, 0, none⟩) (16 + 1) cap1) (16 + 1) (cellsL s g 16 ++ [.int .i64 x, .int .i64 y])) (hb : N0 ≤ base) :
    LsA w3 (.slice (some ⟨g1, 2, none⟩) 16 (cap1 - 1)) (if 16 = 16 then 16 else 16 + 1) N0 (addN s 16 x) (addN g 16 y) := by
  rw [if_pos rfl]
  have hs : ∀ (f : Nat → Int) (z : Int) (i : Nat), addN f 16 z i = if i = 15 then z else f (i + 1) := by
    intro f z i
    unfold addN
    rw [if_pos rfl]
  have := own_lsa (d := 1) (n := 16 + 1) (s := addN s 16 x) (g := addN g 16 y) h hb (by omega) (fun i hd hi => by
    rw [hs, hs]
    by_cases e : i = 16
    · rw [if_pos (by omega), if_pos (by omega), e]
      exact add_hi s g 16 x y
    · rw [if_neg (by omega), if_neg (by omega), show i - 1 + 1 = i by omega]
      exact add_lo s g 16 x y i (by omega))
  simpa using this
set_option maxRecDepth 100000 in
set_option maxHeartbeats 1000000 in
theorem roAsk_calls (w : World) (b N0 : Nat) (num slack last : Int) (n : Nat) (s g : Nat → Int) (till now : Int) (h : RO w b N0 num slack last n s g till) (hn16 : n ≤ 16) (l0 : 0 ≤ last) (l1 : last ≤ 1099511627776) :
    Calls Tryd.prog 69 #[.pointer (some ⟨b, 0, none⟩), .int .i64 now] w (RaskPost w b N0 num slack last n s g till now) := by
  have T := time16_calls w now
  obtain ⟨v, hA, hL⟩ := h.ex
  have hb := hA.lt
  have lo := h.lo
  have hi := h.hi
  have hS : ∀ x, x ∈ [b] → x < N0 := by intro x hx; simp at hx; omega
  have c2 : w.cell? ⟨b, 2, none⟩ = some (.int .i64 last) := hA.cell 2 (by omega)
  by_cases h1 : okT now = false
  · have E := Lib.hid (rask_fail (w' := w) h (show raskE last now = 1 by simp [raskE, h1]) (by omega) (Mod.refl _ _))
    rw [h1] at T
    have T' := Lib.hid T
    clear T h1 h hA hL
    go_enter Tryd.func69, Tryd.ntmps69
    go_wp2_with (go_at_call 80; refine T'.out.mono ?_; rintro e w' ⟨rfl, rfl⟩)
    go_ret2
    exact E.out
  have h1' : okT now = true := by simpa using h1
  rw [h1'] at T
  have T' := Lib.hid T
  clear T h1
  by_cases h2 : 1099511627776 ≤ last
  · have E := Lib.hid (rask_fail (w' := w) h (show raskE last now = 6 by simp [raskE, h1', h2]) (by omega) (Mod.refl _ _))
    clear h1' h hA hL
    go_enter Tryd.func69, Tryd.ntmps69
    go_wp2_with (go_at_call 80; refine T'.out.mono ?_; rintro e w' ⟨rfl, rfl⟩)
    go_ret2
    exact E.out
  · have e0 : raskE last now = 0 := by simp [raskE, h1', h2]
    have f2 := hA.free 2
    have f3 := hA.free 3
    have c3 : w.cell? ⟨b, 3, none⟩ = some v := hA.cell 3 (by omega)
    have ER : Mod [b] w (w.setCell ⟨b, 2, none⟩ (.int .i64 (last + 1))) := (Mod.refl _ _).setCell (by simp) _
    have E0 := Lib.hid e0
    clear e0 h1' h
    have hW : (w.setCell ⟨b, 2, none⟩ (.int .i64 (last + 1))).heap.size = w.heap.size := by simp
    have hk : ((w.setCell ⟨b, 2, none⟩ (.int .i64 (last + 1))).alloc (.cells #[] 112)).ownsRow w.heap.size 112 2 (.slice (some ⟨w.heap.size, 0, none⟩) 0 0) 0 [] := by
      refine ⟨by simp, .inr ⟨w.heap.size, 0, #[], rfl, Nat.le_refl _, ?_, by omega, by unfold maxLen; omega, rfl, by simp⟩⟩
      have := heap_alloc_new (w.setCell ⟨b, 2, none⟩ (.int .i64 (last + 1))) (.cells #[] 112)
      rwa [hW] at this
    have m1 : Mod [b] w ((w.setCell ⟨b, 2, none⟩ (.int .i64 (last + 1))).alloc (.cells #[] 112)) := ER.alloc _
    obtain ⟨v1, w2, hr, ho, m2⟩ := app_all _ w.heap.size N0 v n s g (hL.mod m1 hS) (by omega) hk (by simp)
    have hA1 := (((hA.set 2 (.int .i64 (last + 1))).alloc (.cells #[] 112)).mod m2 (by simp; omega))
    have d2 : w2.cell? ⟨b, 2, none⟩ = some (.int .i64 (last + 1)) := hA1.cell 2 (by omega)
    have d3 : w2.cell? ⟨b, 3, none⟩ = some v := hA1.cell 3 (by omega)
    have g3 := hA1.free 3
    have hb2 := hA1.lt
    have hws := m2.size
    have hws' : w.heap.size + 1 ≤ w2.heap.size := by simpa using hws
    have ho1 : (w2.alloc (.cells #[.int .i64 (last + 1), .int .i64 now] 112)).ownsRow w.heap.size 112 2 v1 n (cellsL s g n) := own_mod ho ((Mod.refl [] _).alloc _) (by simp)
    have hc0 : ∀ (j : Nat) u, [Value.int .i64 (last + 1), .int .i64 now][j]? = some u → (w2.alloc (.cells #[.int .i64 (last + 1), .int .i64 now] 112)).cell? ⟨w2.heap.size, j, none⟩ = some u := by
      intro j u hj
      match j, hj with
      | 0, hj | 1, hj => simp at hj; subst hj; simp
      | j + 2, hj => simp at hj
    clear hk hW
    have hnb : b ∉ v1.ownBlock.toList := fun e => by have := own_lt' ho b (by simpa using e); omega
    have m3 : Mod [b] w w2 := m1.fresh m2 (fun x hx => .inr (by simp at hx; omega))
    have hm3 : ∀ w3, Mod v1.ownBlock.toList (w2.alloc (.cells #[.int .i64 (last + 1), .int .i64 now] 112)) w3 → Mod [b] w w3 := fun w3 h => (m3.alloc _).fresh h (fun x hx => .inr (by have := own_lt' ho x (by simpa using hx); omega))
    rcases Nat.lt_or_ge n 16 with hlt | hge
    · have i1 : ¬ (16 : Int) < (n : Int) + 1 := by omega
      have i2 : ¬ (16 : Int) < ((n + 1 : Nat) : Int) := by omega
      go_enter Tryd.func69, Tryd.ntmps69
      go_wp2_with fail
      refine T'.out.mono ?_
      rintro e w' ⟨rfl, rfl⟩
      go_wp2_with (at_builtin; first
        | (refine wpList_app_run rfl _ _ _ rfl _ _ rfl rfl v1 w2 hr ?_)
        | (refine app1 w.heap.size 100 112 (.agg #[.int .i64 0, .int .i64 0]) 2 16 Tryd.underlying100 asked_info rfl (by omega) (by omega) rfl _ _ rfl v1 _ _ rfl ho1 w2.heap.size [.int .i64 (last + 1), .int .i64 now] rfl rfl hc0 (by simp [Value.oneCell']) (by omega) (by simp; omega) ?_; intro g1 cap1 w3 ho2 hm2 hg hbg; have hA3 := (hA1.alloc (.cells #[.int .i64 (last + 1), .int .i64 now] 112)).mod hm2 hnb; have q2 : w3.cell? ⟨b, 2, none⟩ = some (.int .i64 (last + 1)) := hA3.cell 2 (by omega); have q3 : w3.cell? ⟨b, 3, none⟩ = some v := hA3.cell 3 (by omega); have r3 := hA3.free 3; have hcap := own_cap ho2))
      go_ret2
      exact rask_ok E0.out hA3 (lsa_lt ho2 hi hlt) (hm3 _ hm2) lo (Nat.le_trans hi (hm3 _ hm2).size)
    · obtain rfl : n = 16 := by omega
      go_enter Tryd.func69, Tryd.ntmps69
      go_wp2_with fail
      refine T'.out.mono ?_
      rintro e w' ⟨rfl, rfl⟩
      go_wp2_with (at_builtin; first
        | (refine wpList_app_run rfl _ _ _ rfl _ _ rfl rfl v1 w2 hr ?_)
        | (refine app1 w.heap.size 100 112 (.agg #[.int .i64 0, .int .i64 0]) 2 16 Tryd.underlying100 asked_info rfl (by omega) (by omega) rfl _ _ rfl v1 _ _ rfl ho1 w2.heap.size [.int .i64 (last + 1), .int .i64 now] rfl rfl hc0 (by simp [Value.oneCell']) (by omega) (by simp; omega) ?_; intro g1 cap1 w3 ho2 hm2 hg hbg; have hA3 := (hA1.alloc (.cells #[.int .i64 (last + 1), .int .i64 now] 112)).mod hm2 hnb; have q2 : w3.cell? ⟨b, 2, none⟩ = some (.int .i64 (last + 1)) := hA3.cell 2 (by omega); have q3 : w3.cell? ⟨b, 3, none⟩ = some v := hA3.cell 3 (by omega); have r3 := hA3.free 3; have hcap := own_cap ho2))
      go_ret2
      have mS : Mod [b] w3 (w3.setCell ⟨b, 3, none⟩ (.slice (some ⟨g1, 0, none⟩) 17 cap1)) := (Mod.refl _ _).setCell (by simp) _
      refine rask_ok (v := .slice (some ⟨g1, 0, none⟩) 17 cap1) E0.out ((hA3.set 3 (.slice (some ⟨g1, 0, none⟩) 17 cap1)).congr fun j hj => ?_) ((lsa_ge ho2 hi).mod mS hS) ((hm3 _ hm2).trans mS) lo (Nat.le_trans hi ((hm3 _ hm2).trans mS).size)
      match j, hj with
      | 0, _ | 1, _ | 2, _ | 3, _ | 4, _ => rfl
      | n + 5, h => exact absurd h (by omega)
end Go.Proofs.YtkajedgghoboaaaDoor
