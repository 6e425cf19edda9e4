/- Words that the laws of a clerk share: a hold's cells; what a first Ask, a first answer come to. No condition. -/
import Derived.Test.YtkajedgghoboaaaDoorShow20
import Derived.Test.YtkajedgghoboaaaDoorRow
import Derived.Test.YtkajedgghoboaaaDoorParts2
namespace Go.Proofs.YtkajedgghoboaaaDoor
open Go.RowKit
set_option linter.unusedVariables false
set_option linter.unusedSimpArgs false

theorem hold_of {W : World} {s : Array Value} (h : CellsOk W [.int .i64, .int .i64, .int .i64, .int .i64] s.toList) : ∃ a b c d : Int, s = #[.int .i64 a, .int .i64 b, .int .i64 c, .int .i64 d] := by
  obtain ⟨l⟩ := s
  obtain ⟨h1, h2⟩ := h
  match l, h1 with
  | [x, y, z, u], _ =>
    obtain ⟨a, rfl, _⟩ := (h2 0 _ x rfl rfl).int_inv
    obtain ⟨b, rfl, _⟩ := (h2 1 _ y rfl rfl).int_inv
    obtain ⟨c, rfl, _⟩ := (h2 2 _ z rfl rfl).int_inv
    obtain ⟨d, rfl, _⟩ := (h2 3 _ u rfl rfl).int_inv
    exact ⟨a, b, c, d, rfl⟩
/-- A hold's four cells. -/
def hcF (x y c m : Int) (j : Nat) : Value := if j = 0 then .int .i64 x else if j = 1 then .int .i64 y else if j = 2 then .int .i64 c else .int .i64 m
theorem hold_new (W : World) (x y c m : Int) : Arr (W.alloc (.cells #[.int .i64 x, .int .i64 y, .int .i64 c, .int .i64 m] 31)) W.heap.size 31 4 (hcF x y c m) :=
  Arr.new' W _ _ 4 _ rfl (fun i hi => by
    match i, hi with
    | 0, _ | 1, _ | 2, _ | 3, _ => rfl)
/-- The clerk and the hold that one asks: what stands between two calls. -/
structure CkI (W wr : World) (Bh k b p q bT : Nat) (x y c m : Int) (s : St) : Prop where
  ck : Clk wr k b p q bT s
  hd : Arr wr Bh 31 4 (hcF x y c m)
  md : Mod [] W wr
  l0 : W.heap.size ≤ Bh
  l1 : W.heap.size ≤ k
  l2 : W.heap.size ≤ b
  l3 : W.heap.size ≤ bT
  w0 : 0 < W.heap.size
namespace CkI
variable {W wr w' : World} {Bh k b p q bT : Nat} {x y c m : Int} {s s' : St}
theorem h0 (h : CkI W wr Bh k b p q bT x y c m s) : wr.cell? ⟨Bh, 0, none⟩ = some (.int .i64 x) := h.hd.cell 0 (by omega)
theorem h1 (h : CkI W wr Bh k b p q bT x y c m s) : wr.cell? ⟨Bh, 1, none⟩ = some (.int .i64 y) := h.hd.cell 1 (by omega)
theorem h2 (h : CkI W wr Bh k b p q bT x y c m s) : wr.cell? ⟨Bh, 2, none⟩ = some (.int .i64 c) := h.hd.cell 2 (by omega)
theorem h3 (h : CkI W wr Bh k b p q bT x y c m s) : wr.cell? ⟨Bh, 3, none⟩ = some (.int .i64 m) := h.hd.cell 3 (by omega)
theorem n1 (h : CkI W wr Bh k b p q bT x y c m s) : Bh ≠ k := arr_ne h.hd h.ck.arr (by decide)
theorem n2 (h : CkI W wr Bh k b p q bT x y c m s) : Bh ≠ b := arr_ne h.hd h.ck.own.arr (by decide)
theorem n3 (h : CkI W wr Bh k b p q bT x y c m s) : Bh ≠ bT := arr_ne h.hd h.ck.tb.arr (by decide)
/-- A call of the clerk. -/
theorem next (h : CkI W wr Bh k b p q bT x y c m s) {S : List Nat} (hc : Clk w' k b p q bT s') (k1 : Mod S wr w') (hS : ∀ z, z ∈ S → z = k ∨ z = b ∨ z = bT) : CkI W w' Bh k b p q bT x y c m s' :=
  ⟨hc, h.hd.mod k1 (fun e => by have := h.n1; have := h.n2; have := h.n3; have := hS _ e; omega), h.md.fresh k1 (fun z hz => .inr (by have := h.l1; have := h.l2; have := h.l3; have := hS _ hz; omega)), h.l0, h.l1, h.l2, h.l3, h.w0⟩
theorem same (h : CkI W wr Bh k b p q bT x y c m s) (k1 : Mod [] wr w') : CkI W w' Bh k b p q bT x y c m s := h.next (h.ck.same k1) k1 (by simp)
end CkI
theorem blk_of {x y : Int} (h : blk x y = true) : 0 ≤ x ∧ x < y ∧ y ≤ 256 := by
  simp only [blk, Bool.and_eq_true, decide_eq_true_eq] at h
  exact ⟨h.1.1, h.1.2, h.2⟩
/-- One hold, put into an empty table. -/
theorem put_one {x y m : Int} {i : Nat} (hi : i < 8) (hm : m = 1 ∨ m = 2) (hb : blk x y = true) :
    putE (fun _ _ => 0) x y i m = 0 ∧ ∀ k mo : Int, 0 ≤ k → k < 256 → (mo = 1 ∨ mo = 2) → hasV (putT (fun _ _ => 0) x y i m) i k mo = (decide (x ≤ k ∧ k < y) && decide (mo ≤ m)) := by
  obtain ⟨h1, h2, h3⟩ := blk_of hb
  obtain ⟨x1, rfl⟩ : ∃ x1 : Nat, x = x1 := ⟨x.toNat, by omega⟩
  obtain ⟨x2, rfl⟩ : ∃ x2 : Nat, y = x2 := ⟨y.toNat, by omega⟩
  obtain ⟨m', rfl⟩ : ∃ m' : Nat, m = m' := ⟨m.toNat, by omega⟩
  obtain ⟨e, t⟩ := put_first (c := i) (x1 := x1) (x2 := x2) (m := m') hi (by omega) (by omega) (by omega)
  refine ⟨e, fun k mo k0 k1 hmo => ?_⟩
  rw [t]
  unfold hasV
  rw [if_neg (by simp [inC8]; omega), if_neg (by omega), if_neg (by omega), if_neg (by omega), Int.toNat_natCast]
  unfold tO
  by_cases hk : (x1 : Int) ≤ k ∧ k < x2
  · rw [if_pos ⟨rfl, by omega, by omega⟩]
    simp [hk]
  · rw [if_neg (fun h => hk ⟨by omega, by omega⟩)]
    simp [hk]
    omega
theorem put_bad {x y m : Int} {i : Nat} (hi : i < 8) (h : putE (fun _ _ => 0) x y i m ≠ 0) : blk x y = false ∨ (blk x y = true ∧ m ≠ 1 ∧ m ≠ 2) := by
  cases hb : blk x y with
  | false => exact .inl rfl
  | true =>
    refine .inr ⟨rfl, ?_, ?_⟩
    · intro hm; exact h (put_one hi (.inl hm) hb).1
    · intro hm; exact h (put_one hi (.inr hm) hb).1
theorem put_good {x y m : Int} {i : Nat} (h : putE (fun _ _ => 0) x y i m = 0) : blk x y = true ∧ (m = 1 ∨ m = 2) := by
  unfold putE at h
  by_cases h1 : inC8 i = false
  · rw [if_pos h1] at h; exact absurd h (by decide)
  rw [if_neg h1] at h
  by_cases h2 : m ≠ 1 ∧ m ≠ 2
  · rw [if_pos h2] at h; exact absurd h (by decide)
  rw [if_neg h2] at h
  by_cases h3 : x < 0
  · rw [if_pos h3] at h; exact absurd h (by decide)
  rw [if_neg h3] at h
  by_cases h4 : y ≤ x
  · rw [if_pos h4] at h; exact absurd h (by decide)
  rw [if_neg h4] at h
  by_cases h5 : 256 < y
  · rw [if_pos h5] at h; exact absurd h (by decide)
  exact ⟨by simp [blk]; omega, by omega⟩
theorem has_zero (c k m : Int) (hm : m = 1 ∨ m = 2) : hasV (fun _ _ => 0) c k m = false := by
  unfold hasV
  split
  · rfl
  · split
    · rfl
    · split
      · rfl
      · rw [if_neg (by omega)]
        simp
        omega
theorem okT_of {x : Int} (h0 : 0 ≤ x) (h1 : x ≤ 1099511627776) : okT x = true := by simp [okT]; omega
theorem ask_ok {last x : Int} (h0 : 0 ≤ x) (h1 : x ≤ 1099511627776) (hl : last < 1099511627776) : askE last x = 0 := by
  unfold askE
  rw [okT_of h0 h1, if_neg (by simp), if_neg (by omega)]
theorem got_ok {last got seq len : Int} (h0 : 0 ≤ len) (h1 : len ≤ 1099511627776) (h2 : got < seq) (h3 : seq ≤ last) (h4 : last - 16 < seq) : gotE last got seq len = 0 := by
  unfold gotE
  rw [okT_of h0 h1, if_neg (by simp), if_neg (by omega), if_neg (by omega), if_neg (by omega)]
/-- A clerk that has asked once, and was answered. -/
structure OneF (id num slack x len : Int) : Prop where
  e1 : askE (stNew id num slack).last x = 0
  v1 : askV (stNew id num slack).last x = 1
  g1 : gotE (askS (stNew id num slack) x).last (askS (stNew id num slack) x).got 1 len = 0
  t2 : (gotS (askS (stNew id num slack) x) 1 len).till = x + margV len num slack
theorem oneF (id num slack x len : Int) (hx0 : 0 ≤ x) (hx : x ≤ 1099511627776) (hl0 : 0 ≤ len) (hl : len ≤ 1099511627776) : OneF id num slack x len := by
  have e1 : askE (stNew id num slack).last x = 0 := ask_ok hx0 hx (by simp [stNew])
  have l1 : (askS (stNew id num slack) x).last = 1 := by
    show askL (stNew id num slack).last x = 1
    unfold askL
    rw [if_pos e1]
    rfl
  have g1 : gotE (askS (stNew id num slack) x).last (askS (stNew id num slack) x).got 1 len = 0 := by
    rw [l1]
    exact got_ok hl0 hl (by show (0 : Int) < 1; omega) (by omega) (by omega)
  have hm := (margV_bd len num slack).1
  refine ⟨e1, by unfold askV; rw [if_pos e1]; rfl, g1, ?_⟩
  show gotT (askA (stNew id num slack).a (stNew id num slack).last x) _ _ (-1) 1 len num slack = _
  unfold gotT
  rw [if_pos g1]
  unfold askA
  rw [if_pos e1]
  show max (-1) (upd _ 1 x 1 + margV len num slack) = _
  unfold upd
  rw [if_pos rfl]
  omega
end Go.Proofs.YtkajedgghoboaaaDoor
