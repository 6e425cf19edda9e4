/- The ballot laws' calls, as they came in; the law's bound; the two acceptors side by side. No further condition. -/
import Derived.Test.YtphcoenooinmfaaDoorBal19
import Derived.Test.YtphcoenooinmfaaDoorRow
namespace Go.Proofs.YtphcoenooinmfaaDoor
open Go.RowKit
set_option linter.unusedVariables false
set_option linter.unusedSimpArgs false
attribute [local go_sem ↓] Go.wp_at_zero Go.wp_at_succ

structure StepT where
  k : Int
  b : Int
  i : Int
  x : VoteT
def StepT.zero : StepT := ⟨0, 0, 0, VoteT.zero⟩
/-- The calls at A: n of them. -/
structure Sts (w : World) (A : Option Addr) (n : Nat) (f : Nat → StepT) : Prop where
  ex : 0 < n → ∃ b off, A = some ⟨b, off, none⟩ ∧ ∀ i, i < n → w.cell? ⟨b, off + i * 6, none⟩ = some (.int .i64 (f i).k) ∧ w.cell? ⟨b, off + i * 6 + 1, none⟩ = some (.int .i64 (f i).b) ∧ w.cell? ⟨b, off + i * 6 + 2, none⟩ = some (.int .i64 (f i).i) ∧
    w.cell? ⟨b, off + i * 6 + 3, none⟩ = some (.int .i64 (f i).x.s) ∧ w.cell? ⟨b, off + i * 6 + 4, none⟩ = some (.int .i64 (f i).x.b) ∧ w.cell? ⟨b, off + i * 6 + 5, none⟩ = some (.string (f i).x.v)
  sz : ∀ i, i < n → (f i).x.v.size ≤ 9223372036854775807
theorem Sts.mod {w w' : World} {A : Option Addr} {n : Nat} {f : Nat → StepT} (h : Sts w A n f) (m : Mod [] w w') : Sts w' A n f :=
  ⟨fun h0 => by
    obtain ⟨b, off, e, hc⟩ := h.ex h0
    exact ⟨b, off, e, fun i hi => ⟨m.cell' (hc i hi).1 (by simp), m.cell' (hc i hi).2.1 (by simp), m.cell' (hc i hi).2.2.1 (by simp), m.cell' (hc i hi).2.2.2.1 (by simp), m.cell' (hc i hi).2.2.2.2.1 (by simp), m.cell' (hc i hi).2.2.2.2.2 (by simp)⟩⟩, h.sz⟩
theorem choose_f {α : Type} (d : α) (n : Nat) (P : Nat → α → Prop) (h : ∀ i, i < n → ∃ x, P i x) : ∃ f : Nat → α, ∀ i, i < n → P i (f i) := by
  classical
  exact ⟨fun i => if hi : i < n then (h i hi).choose else d, fun i hi => by simp only [hi, dif_pos]; exact (h i hi).choose_spec⟩
theorem steps10_inv {W : World} {v : Value} (c : CellOk W (.sl [.int .i64, .int .i64, .int .i64, .int .i64, .int .i64, .str]) v) :
    ∃ A n cap f, v = .slice A n cap ∧ n ≤ cap ∧ cap ≤ 9223372036854775807 ∧ Sts W A n f := by
  obtain ⟨n, F, hA, hf⟩ := c.slA (by simp)
  obtain ⟨A, cap, rfl, h1, h2, h3⟩ := hA.ex
  obtain ⟨f, hF⟩ := choose_f StepT.zero n (fun i x => (F i 0 = .int .i64 x.k ∧ F i 1 = .int .i64 x.b ∧ F i 2 = .int .i64 x.i ∧ F i 3 = .int .i64 x.x.s ∧ F i 4 = .int .i64 x.x.b ∧ F i 5 = .string x.x.v) ∧ x.x.v.size ≤ 9223372036854775807) (fun i hi => by
    obtain ⟨z0, e0, _⟩ := (hf i 0 _ hi rfl).int_inv
    obtain ⟨z1, e1, _⟩ := (hf i 1 _ hi rfl).int_inv
    obtain ⟨z2, e2, _⟩ := (hf i 2 _ hi rfl).int_inv
    obtain ⟨z3, e3, _⟩ := (hf i 3 _ hi rfl).int_inv
    obtain ⟨z4, e4, _⟩ := (hf i 4 _ hi rfl).int_inv
    obtain ⟨s, e5, hs⟩ := (hf i 5 _ hi rfl).str_inv
    exact ⟨⟨z0, z1, z2, ⟨z3, z4, s⟩⟩, ⟨e0, e1, e2, e3, e4, e5⟩, by unfold maxLen at hs; exact hs⟩)
  refine ⟨A, n, cap, f, rfl, h1, by unfold maxLen at h2; omega, ⟨fun h0 => ?_, fun i hi => (hF i hi).2⟩⟩
  obtain ⟨b, off, e, hc⟩ := h3 h0
  refine ⟨b, off, e, fun i hi => ?_⟩
  obtain ⟨e0, e1, e2, e3, e4, e5⟩ := (hF i hi).1
  exact ⟨by have := hc i 0 hi (by simp); rw [e0] at this; exact this, by have := hc i 1 hi (by simp); rw [e1] at this; exact this, by have := hc i 2 hi (by simp); rw [e2] at this; exact this, by have := hc i 3 hi (by simp); rw [e3] at this; exact this, by have := hc i 4 hi (by simp); rw [e4] at this; exact this, by have := hc i 5 hi (by simp); rw [e5] at this; exact this⟩
def HeavyPost (w : World) (n : Nat) (r : Ending) (w' : World) : Prop := ∃ t : Bool, r = .returned (.bool t) ∧ (t = false → n ≤ 100) ∧ w = w'
set_option maxRecDepth 100000 in
set_option maxHeartbeats 1000000 in
theorem heavy_calls (w : World) (A : Option Addr) (n cap : Nat) (f : Nat → StepT) (hS : Sts w A n f) (hn : n ≤ cap) (hc : cap ≤ 9223372036854775807) :
    Calls Tryd.prog 21 #[.slice A n cap] w (HeavyPost w n) := by
  have HS := Lib.hid hS
  clear hS
  have start : ∀ m0 : Int, (if (1048576 : Int) < (n : Int) then (1048576 : Int) else n) = m0 → 0 ≤ m0 ∧ m0 ≤ 1048576 ∧ (m0 ≤ 8192 → (n : Int) ≤ 8192) := fun m0 h => by split at h <;> omega
  by_cases hbig : n ≤ 1048576
  rotate_left
  · have hb : (1048576 : Int) < (n : Int) := by omega
    go_enter Tryd.func21, Tryd.ntmps21
    go_wp2
    go_loop [3, 4] (fun m i => m = .int .i64 1048576 ∧ i = .int .i64 0) (fun _ i => 0)
    case atStart => exact ⟨rfl, rfl⟩
    case round =>
      obtain ⟨rfl, rfl⟩ := hrel
      have h0 : (0 : Int) < (n : Int) := by omega
      go_wp2
      go_ret
      exact ⟨_, rfl, (fun h => by cases h), rfl⟩
  · have hb : ¬ (1048576 : Int) < (n : Int) := by omega
    have hb' : (n : Int) ≤ 1048576 := by omega
    go_enter Tryd.func21, Tryd.ntmps21
    go_wp2
    go_loop [3, 4] (fun m i => ∃ (k : Nat) (z : Int), k ≤ n ∧ i = .int .i64 k ∧ m = .int .i64 z ∧ 0 ≤ z ∧ z ≤ 2000000) (fun _ i => n - (intOf i).toNat)
    case atStart => exact ⟨0, n, Nat.zero_le _, rfl, rfl, by omega, by omega⟩
    case round =>
      obtain ⟨k, z, hk, rfl, rfl, z0, z1⟩ := hrel
      have fin : ∀ t : Bool, (t = false → n ≤ 100) → HeavyPost w n (.returned (.bool t)) w := fun t ht => ⟨t, rfl, ht, rfl⟩
      have FIN := Lib.hid fin
      clear fin start
      by_cases hz : 8192 < z
      · by_cases hlt : k < n
        · have i1 : (k : Int) < (n : Int) := by omega
          have z2 : ¬ z ≤ 8192 := by omega
          go_wp2
          go_ret
          exact FIN.out _ (fun h => by cases h)
        · have i1 : ¬ (k : Int) < (n : Int) := by omega
          go_wp2
          go_ret
          exact FIN.out _ (fun h => by cases h)
      · have z2 : z ≤ 8192 := by omega
        by_cases hlt : k < n
        · have i0 : (0 : Int) ≤ (k : Int) := by omega
          have i1 : (k : Int) < (n : Int) := by omega
          obtain ⟨b, off, rfl, hcl⟩ := HS.out.ex (by omega)
          obtain ⟨_, _, _, _, _, x5⟩ := hcl k hlt
          have hsz := HS.out.sz k hlt
          generalize (f k).x.v = s at *
          clear hcl
          by_cases hm : (1048576 : Int) < (s.size : Int)
          · go_wp2
            go_round
            case rel => exact ⟨k + 1, _, by omega, by go_num, rfl, by omega, by omega⟩
            case measure => simp [intOf]; omega
          · go_wp2
            go_round
            case rel => exact ⟨k + 1, _, by omega, by go_num, rfl, by omega, by omega⟩
            case measure => simp [intOf]; omega
        · have i1 : ¬ (k : Int) < (n : Int) := by omega
          by_cases h100 : (100 : Int) < (n : Int)
          · go_wp2
            go_ret
            exact FIN.out _ (fun h => by cases h)
          · go_wp2
            go_ret
            exact FIN.out _ (fun _ => by omega)
/-- The program's acceptor, and the document's. -/
structure BR (W w : World) (A r : Nat) (p : Int) (g : Nat → Option VoteT) (f : Nat → Nat) (v : Value) (n : Nat) : Prop where
  m : Mod [] W w
  acc : AccP w A p g f
  ref : RAcc w W.heap.size r p v (votesN g 4096)
  ok : okG p g
  len : (votesN g 4096).length ≤ n
  la : W.heap.size ≤ A
  lr : W.heap.size ≤ r
namespace BR
variable {W w w1 w2 : World} {A r n : Nat} {p : Int} {g : Nat → Option VoteT} {f : Nat → Nat} {v : Value}
theorem step0 (h : BR W w A r p g f v n) (m : Mod [] w w1) : BR W w1 A r p g f v n := ⟨h.m.trans m, h.acc.mod m, h.ref.mod0 m, h.ok, h.len, h.la, h.lr⟩
theorem more (h : BR W w A r p g f v n) {n' : Nat} (hn : n ≤ n') : BR W w A r p g f v n' := ⟨h.m, h.acc, h.ref, h.ok, Nat.le_trans h.len hn, h.la, h.lr⟩
/-- The document's is as it was behind a call on the program's. -/
theorem refA (h : BR W w A r p g f v n) (m : Mod [A] w w1) : RAcc w1 W.heap.size r p v (votesN g 4096) :=
  h.ref.mod m (by simpa using arr_ne h.ref.arr h.acc.arr (by decide)) (fun k hk hx => by
    have := own_ne_arr h.ref.own h.acc.arr (by decide)
    rw [hk] at this
    simp at this hx
    exact this hx.symm)
theorem mA (h : BR W w A r p g f v n) (m : Mod [A] w w1) : Mod [] W w1 := h.m.fresh m (fun x hx => by simp at hx; subst hx; exact .inr h.la)
/-- Behind a call on each. -/
theorem both (h : BR W w A r p g f v n) {p' : Int} {g' : Nat → Option VoteT} {f' : Nat → Nat} {v' : Value} {n' : Nat} (m1 : Mod [A] w w1) (a1 : AccP w1 A p' g' f') (m2 : Mod [r] w1 w2) (r2 : RAcc w2 W.heap.size r p' v' (votesN g' 4096)) (ho : okG p' g') (hl : (votesN g' 4096).length ≤ n') : BR W w2 A r p' g' f' v' n' :=
  ⟨(h.mA m1).fresh m2 (fun x hx => by simp at hx; subst hx; exact .inr h.lr), a1.modS m2 (fun x hx => by simp at hx; subst hx; exact ⟨_, _, _, (h.refA m1).arr, by decide, by decide⟩), r2, ho, hl, h.la, h.lr⟩
end BR
theorem br_new {W w1 w2 : World} (m1 : Mod [] W w1) (m2 : Mod [] w1 w2) (hA : AccP w2 w1.heap.size 0 (fun _ => none) (fun _ => 0)) :
    BR W (w2.alloc (.cells #[.int .i64 0, .slice none 0 0] 48)) w1.heap.size w2.heap.size 0 (fun _ => none) (fun _ => 0) (.slice none 0 0) 0 := by
  have e : votesN (fun _ => none) 4096 = [] := by unfold votesN; rw [List.filterMap_eq_nil_iff]; intro _ _; rfl
  have ma : Mod [] w2 (w2.alloc (.cells #[.int .i64 0, .slice none 0 0] 48)) := (Mod.refl _ _).alloc _
  refine ⟨(m1.trans m2).trans ma, hA.mod ma, ?_, okG_none, by rw [e]; simp, m1.size, (m1.trans m2).size⟩
  rw [e]
  exact (RAcc.new w2).base (m1.trans m2).size
end Go.Proofs.YtphcoenooinmfaaDoor
