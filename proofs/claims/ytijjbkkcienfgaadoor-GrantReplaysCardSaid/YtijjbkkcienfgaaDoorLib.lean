/- Words on memory that all walks of this seat use: what a call may have changed ('Mod'), what a block of cells holds ('Arr'). No condition. -/
import Derived.WalkKit
import Derived.Deep.QuietTactic
import Derived.BigQuiet
import Derived.WalkLawsBesides
import Derived.WalkSpells
import Derived.Deep.RegionHeld3
import Derived.Deep.DrawnRows
import Derived.Lib.Hide
import Derived.Deep.AppendLies
namespace Go.Proofs.YtijjbkkcienfgaaDoor
open Go.RowKit
set_option linter.unusedVariables false
set_option linter.unusedSimpArgs false

/-- All blocks that were there are as they were, but for those of S. -/
structure Mod (S : List Nat) (w w' : World) : Prop where
  os : w'.os = w.os
  tape : w'.tape = w.tape
  output : w'.output = w.output
  size : w.heap.size ≤ w'.heap.size
  block : ∀ k, k < w.heap.size → k ∉ S → w'.heap[k]? = w.heap[k]?

namespace Mod
variable {S T : List Nat} {w w' w'' : World}
theorem refl (S : List Nat) (w : World) : Mod S w w := ⟨rfl, rfl, rfl, Nat.le_refl _, fun _ _ _ => rfl⟩
theorem trans (h : Mod S w w') (k : Mod S w' w'') : Mod S w w'' :=
  ⟨k.os.trans h.os, k.tape.trans h.tape, k.output.trans h.output, Nat.le_trans h.size k.size, fun i hi hs => (k.block i (Nat.lt_of_lt_of_le hi h.size) hs).trans (h.block i hi hs)⟩
theorem mono (h : Mod S w w') (hs : ∀ x, x ∈ S → x ∈ T) : Mod T w w' := ⟨h.os, h.tape, h.output, h.size, fun k hk hn => h.block k hk (fun e => hn (hs _ e))⟩
theorem nil (h : Mod [] w w') : Mod S w w' := h.mono (by simp)
/-- What was changed was new, seen from an earlier world. -/
theorem fresh (h : Mod S w w') (k : Mod T w' w'') (hT : ∀ x, x ∈ T → x ∈ S ∨ w.heap.size ≤ x) : Mod S w w'' :=
  ⟨k.os.trans h.os, k.tape.trans h.tape, k.output.trans h.output, Nat.le_trans h.size k.size, fun i hi hs =>
    (k.block i (Nat.lt_of_lt_of_le hi h.size) (fun e => (hT i e).elim hs (fun hle => by omega))).trans (h.block i hi hs)⟩
theorem drew (h : Mod S w w') : Mod S w w'.drew := ⟨h.os, h.tape, h.output, h.size, h.block⟩
theorem drewN (h : Mod S w w') (n : Nat) : Mod S w (w'.drewN n) := ⟨h.os, h.tape, h.output, h.size, h.block⟩
theorem of_drew (h : Mod S w.drew w') : Mod S w w' := ⟨h.os, h.tape, h.output, h.size, h.block⟩
theorem of_drewN {n : Nat} (h : Mod S (w.drewN n) w') : Mod S w w' := ⟨h.os, h.tape, h.output, h.size, h.block⟩
theorem alloc (h : Mod S w w') (o : Obj) : Mod S w (w'.alloc o) :=
  h.trans ⟨rfl, rfl, rfl, by simp, fun k hk _ => Below.heap_alloc _ _ _ hk⟩
theorem setCell (h : Mod S w w') {p : Addr} (hp : p.block ∈ S ∨ w.heap.size ≤ p.block) (u : Value) : Mod S w (w'.setCell p u) :=
  h.fresh (T := [p.block]) ⟨rfl, rfl, rfl, by simp, fun k _ hs => Below.heap_setCell _ _ _ _ (by simpa using hs)⟩ (by simpa using hp)
theorem below (h : Mod S w w') {B : Nat} (hB : B ≤ w.heap.size) (hs : ∀ x, x ∈ S → B ≤ x) : Below B w w' :=
  ⟨h.os, h.tape, h.output, h.size, fun k hk => h.block k (by omega) (fun e => by have := hs k e; omega)⟩
theorem of_below (h : Below w.heap.size w w') : Mod S w w' := ⟨h.os, h.tape, h.output, h.size, fun k hk _ => h.block k hk⟩
theorem of_belowS {B : Nat} (h : Below B w w') (hs : ∀ x, B ≤ x → x < w.heap.size → x ∈ S) : Mod S w w' := ⟨h.os, h.tape, h.output, h.size, fun k hk hn => h.block k (by
  rcases Nat.lt_or_ge k B with h' | h'
  · exact h'
  · exact (hn (hs k h' hk)).elim)⟩
theorem cell (h : Mod S w w') {p : Addr} (hp : p.block < w.heap.size) (hs : p.block ∉ S) : w'.cell? p = w.cell? p := World.cell?_of_block (w := w) (h.block p.block hp hs)
theorem cell' (h : Mod S w w') {p : Addr} {v : Value} (hc : w.cell? p = some v) (hs : p.block ∉ S) : w'.cell? p = some v := (h.cell (World.block_lt_of_cell? w p hc) hs).trans hc
theorem frozen (h : Mod S w w') {p : Addr} (hp : p.block < w.heap.size) (hs : p.block ∉ S) : w'.frozen? p = w.frozen? p := World.frozen?_of_block (w := w) (h.block p.block hp hs)
theorem heap (h : Mod S w w') {k : Nat} {o : Obj} (hk : w.heap[k]? = some o) (hs : k ∉ S) : w'.heap[k]? = some o := (h.block k (lt_of_block hk) hs).trans hk
end Mod

/-- Beneath B nothing has changed: carried on by a 'Mod'. -/
theorem below_mod {B : Nat} {S : List Nat} {w0 w w' : World} (h : Below B w0 w) (k : Mod S w w') (hB : B ≤ w.heap.size) (hs : ∀ x, x ∈ S → B ≤ x) : Below B w0 w' := h.trans (k.below hB hs)

/-- Block b: N cells of type T, or more; the i-th of the first N holds f i; none is frozen. -/
def Arr (w : World) (b : Nat) (T : TypeId) (N : Nat) (f : Nat → Value) : Prop :=
  ∃ cs : Array Value, w.heap[b]? = some (.cells cs T (0, 0)) ∧ N ≤ cs.size ∧ ∀ i, i < N → cs[i]? = some (f i)

namespace Arr
variable {w w' : World} {b : Nat} {T : TypeId} {N : Nat} {f g : Nat → Value}
theorem lt (h : Arr w b T N f) : b < w.heap.size := let ⟨_, h1, _⟩ := h; lt_of_block h1
theorem cell (h : Arr w b T N f) (i : Nat) (hi : i < N) : w.cell? ⟨b, i, none⟩ = some (f i) := by
  obtain ⟨cs, h1, _, h3⟩ := h
  simp [World.cell?, h1, h3 i hi]
theorem free (h : Arr w b T N f) (i : Nat) : w.frozen? ⟨b, i, none⟩ = false := by
  obtain ⟨cs, h1, _, _⟩ := h
  simp [World.frozen?, h1]
theorem congr (h : Arr w b T N f) (e : ∀ i, i < N → f i = g i) : Arr w b T N g := by
  obtain ⟨cs, h1, h2, h3⟩ := h
  exact ⟨cs, h1, h2, fun i hi => by rw [h3 i hi, e i hi]⟩
theorem set (h : Arr w b T N f) (i : Nat) (v : Value) : Arr (w.setCell ⟨b, i, none⟩ v) b T N (fun j => if j = i then v else f j) := by
  obtain ⟨cs, h1, h2, h3⟩ := h
  refine ⟨cs.setIfInBounds i v, ?_, by simpa using h2, fun j hj => ?_⟩
  · simp [World.setCell, Array.getElem?_modify, h1]
  · rw [Array.getElem?_setIfInBounds]
    by_cases e : j = i
    · subst e; rw [if_pos rfl, if_pos (by omega)]; simp
    · rw [if_neg (fun x => e x.symm), h3 j hj]; simp [e]
theorem other (h : Arr w b T N f) {p : Addr} (hp : p.block ≠ b) (v : Value) : Arr (w.setCell p v) b T N f := by
  obtain ⟨cs, h1, h2, h3⟩ := h
  exact ⟨cs, by rw [Below.heap_setCell _ _ _ _ (fun e => hp e.symm)]; exact h1, h2, h3⟩
theorem alloc (h : Arr w b T N f) (o : Obj) : Arr (w.alloc o) b T N f := by
  obtain ⟨cs, h1, h2, h3⟩ := h
  exact ⟨cs, by rw [Below.heap_alloc _ _ _ (lt_of_block h1)]; exact h1, h2, h3⟩
theorem drewN' (h : Arr w b T N f) (n : Nat) : Arr (w.drewN n) b T N f := h
theorem drew (h : Arr w b T N f) : Arr w.drew b T N f := h
theorem drewN (h : Arr w b T N f) (n : Nat) : Arr (w.drewN n) b T N f := h
theorem mod {S : List Nat} (h : Arr w b T N f) (m : Mod S w w') (hs : b ∉ S) : Arr w' b T N f := by
  obtain ⟨cs, h1, h2, h3⟩ := h
  exact ⟨cs, m.heap h1 hs, h2, h3⟩
theorem below {B : Nat} (h : Arr w b T N f) (m : Below B w w') (hb : b < B) : Arr w' b T N f := by
  obtain ⟨cs, h1, h2, h3⟩ := h
  exact ⟨cs, (m.block b hb).trans h1, h2, h3⟩
/-- A new block. -/
theorem new (w : World) (cs : Array Value) (T : TypeId) (f : Nat → Value) (hf : ∀ i, i < cs.size → cs[i]? = some (f i)) : Arr (w.alloc (.cells cs T)) w.heap.size T cs.size f :=
  ⟨cs, by show (w.heap.push _)[w.heap.size]? = _; simp, Nat.le_refl _, hf⟩
theorem new' (w : World) (cs : Array Value) (T : TypeId) (N : Nat) (f : Nat → Value) (hN : cs.size = N) (hf : ∀ i, i < N → cs[i]? = some (f i)) : Arr (w.alloc (.cells cs T)) w.heap.size T N f :=
  ⟨cs, by show (w.heap.push _)[w.heap.size]? = _; simp, by omega, hf⟩
end Arr

theorem pw_drewN {B : Nat} {w W : World} (h : Below B w W) (n : Nat) : Below B w (W.drewN n) := ⟨h.os, h.tape, h.output, h.size, h.block⟩
theorem ret_int {k : IntKind} {a b : Int} (h : a = b) : Ending.returned (.int k a) = .returned (.int k b) := by rw [h]
theorem wr {n : Int} (h : -9223372036854775808 ≤ n) (h' : n ≤ 9223372036854775807) : wrap64 n = n := by unfold wrap64; omega
theorem max2_int (k : IntKind) (a b : Int) : (if a < b then Value.int k b else Value.int k a) = .int k (max a b) := by
  split <;> congr 1 <;> omega
/-- A row of the call's own, as a block. -/
theorem own_arr {w : World} {base e size n : Nat} {v : Value} {xs : List Value} (h : w.ownsRow base e size v n xs) (hn : 0 < n) :
    ∃ g cap, v = .slice (some ⟨g, 0, none⟩) n cap ∧ base ≤ g ∧ n ≤ cap ∧ cap ≤ maxLen ∧ Arr w g e (n * size) (fun i => xs.getD i undef) := by
  obtain ⟨h1, h2 | ⟨g, cap, cur, rfl, hg, hh, hc, hm, hs, hx⟩⟩ := h
  · omega
  · refine ⟨g, cap, rfl, hg, hc, hm, cur, hh, by rw [hs]; exact Nat.mul_le_mul_right _ hc, fun i hi => ?_⟩
    have h3 : n * size ≤ cap * size := Nat.mul_le_mul_right _ hc
    rw [← hx]
    simp only [List.getD_eq_getElem?_getD, List.getElem?_take, if_pos hi]
    simp [Array.getElem?_eq_getElem (show i < cur.size by omega)]
/-- A block of cells, as a row. -/
theorem arr_own {w : World} {g e n cap base : Nat} {f : Nat → Value} {cs : Array Value} (hh : w.heap[g]? = some (.cells cs e (0, 0))) (hs : cs.size = cap) (hf : ∀ i, i < n → cs[i]? = some (f i)) (hc : n ≤ cap) (hm : cap ≤ maxLen) (hb : base ≤ g) :
    w.ownsRow base e 1 (.slice (some ⟨g, 0, none⟩) n cap) n ((List.range n).map f) := by
  refine ⟨by simp, .inr ⟨g, cap, cs, rfl, hb, hh, hc, hm, by omega, ?_⟩⟩
  apply List.ext_getElem?
  intro i
  rw [List.getElem?_take, Nat.mul_one]
  by_cases hi : i < n
  · rw [if_pos hi]
    simp [hf i hi, List.getElem?_range hi]
  · rw [if_neg hi]
    simp [List.getElem?_eq_none (show (List.range n).length ≤ i by simp; omega)]
theorem own_lt' {w : World} {base e size n : Nat} {v : Value} {xs : List Value} (h : w.ownsRow base e size v n xs) (k : Nat) (hk : v.ownBlock = some k) : base ≤ k ∧ k < w.heap.size := by
  obtain ⟨h1, h2 | ⟨g, cap, cur, rfl, hg, hh, _⟩⟩ := h
  · rw [h2.1] at hk; cases hk
  · cases hk
    exact ⟨hg, lt_of_block hh⟩
theorem own_mod {w w' : World} {S : List Nat} {base e size n : Nat} {v : Value} {xs : List Value} (h : w.ownsRow base e size v n xs) (m : Mod S w w') (hs : ∀ k, v.ownBlock = some k → k ∉ S) : w'.ownsRow base e size v n xs := by
  obtain ⟨h1, h2 | ⟨g, cap, cur, rfl, hg, hh, r⟩⟩ := h
  · exact ⟨h1, .inl h2⟩
  · exact ⟨h1, .inr ⟨g, cap, cur, rfl, hg, m.heap hh (hs g rfl), r⟩⟩
theorem own_nil (w : World) (base e size : Nat) : w.ownsRow base e size (.slice none 0 0) 0 [] := ⟨by simp, .inl ⟨rfl, rfl⟩⟩
theorem own_base {w : World} {base base' e size n : Nat} {v : Value} {xs : List Value} (h : w.ownsRow base e size v n xs) (hb : base' ≤ base) : w.ownsRow base' e size v n xs := by
  obtain ⟨h1, h2 | ⟨g, cap, cur, rfl, hg, r⟩⟩ := h
  · exact ⟨h1, .inl h2⟩
  · exact ⟨h1, .inr ⟨g, cap, cur, rfl, Nat.le_trans hb hg, r⟩⟩
theorem mod_grown {w w' : World} {v : Value} (h : w.grownBy w' v.ownBlock) : Mod v.ownBlock.toList w w' :=
  ⟨h.os, h.tape, h.output, h.size, fun k hk hn => h.block k hk (fun e => hn (by rw [← e]; simp))⟩

/-- A slice of n elements of sz cells each: the j-th cell of the i-th is f i j. -/
structure SlA (w : World) (v : Value) (n sz : Nat) (f : Nat → Nat → Value) : Prop where
  ex : ∃ A cap, v = .slice A n cap ∧ n ≤ cap ∧ cap ≤ maxLen ∧ (0 < n → ∃ b off, A = some ⟨b, off, none⟩ ∧ ∀ i j, i < n → j < sz → w.cell? ⟨b, off + i * sz + j, none⟩ = some (f i j))

theorem SlA.mod {w w' : World} {v : Value} {n sz : Nat} {f : Nat → Nat → Value} (h : SlA w v n sz f) (hb : Below w.heap.size w w') : SlA w' v n sz f := by
  obtain ⟨A, cap, h1, h2, h3, h4⟩ := h.ex
  refine ⟨A, cap, h1, h2, h3, fun hn => ?_⟩
  obtain ⟨b, off, e1, e2⟩ := h4 hn
  exact ⟨b, off, e1, fun i j hi hj => (hb.cell (World.block_lt_of_cell? w _ (e2 i j hi hj))).trans (e2 i j hi hj)⟩
theorem SlA.congr {w : World} {v : Value} {n sz : Nat} {f g : Nat → Nat → Value} (h : SlA w v n sz f) (e : ∀ i j, i < n → j < sz → f i j = g i j) : SlA w v n sz g := by
  obtain ⟨A, cap, h1, h2, h3, h4⟩ := h.ex
  refine ⟨A, cap, h1, h2, h3, fun hn => ?_⟩
  obtain ⟨b, off, e1, e2⟩ := h4 hn
  exact ⟨b, off, e1, fun i j hi hj => (e2 i j hi hj).trans (by rw [e i j hi hj])⟩
theorem own_slA {w : World} {base e size n : Nat} {v : Value} {xs : List Value} (h : w.ownsRow base e size v n xs) : SlA w v n size (fun i j => xs.getD (i * size + j) undef) := by
  rcases Nat.eq_zero_or_pos n with h0 | h0
  · subst h0
    obtain ⟨h1, h2 | ⟨g, cap, cur, rfl, hg, hh, hc, hm, hs, hx⟩⟩ := h
    · exact ⟨none, 0, h2.1, Nat.le_refl _, Nat.zero_le _, fun h => absurd h (by omega)⟩
    · exact ⟨_, cap, rfl, hc, hm, fun h => absurd h (by omega)⟩
  · obtain ⟨g, cap, rfl, hg, hc, hm, ha⟩ := own_arr h h0
    refine ⟨_, cap, rfl, hc, hm, fun _ => ⟨g, 0, rfl, fun i j hi hj => ?_⟩⟩
    have : i * size + j < n * size := by
      have := Nat.mul_le_mul_right size (show i + 1 ≤ n by omega)
      rw [Nat.succ_mul] at this
      omega
    rw [Nat.zero_add]
    exact ha.cell _ this

/-- append(v, x) of one element of sz cells onto a row of one's own, at a plain region. -/
theorem app1 {P : Program} {ops : Array Oper} {rest : List Oper} {o : Oper} {a : Act} {Q : Exit → Act → World → Prop} {w : World} (base : Nat) (T e : TypeId) (z : Value) (sz bytes : Nat)
    (hT : P.underlying T = some (.slice e)) (hinfo : (P.info? e).map (fun i => (i.zero, i.size, i.bytes)) = some (some z, sz, bytes)) (hzc : z.cells.size = sz) (hsz : 0 < sz) (hby : bytes ≤ 1000)
    (hgd : o.guard = none) (s x : Operand) (ho : o.op = .call { callee := .builtin .append, args := #[s, x], argTypes := #[T, T] })
    (v : Value) (n : Nat) (xs : List Value) (hs : a.eval s = v) (hown : w.ownsRow base e sz v n xs) (g0 : Nat) (news : List Value) (hx : a.eval x = .slice (some ⟨g0, 0, none⟩) 1 1)
    (hl : news.length = sz) (hc : ∀ (j : Nat) u, news[j]? = some u → w.cell? ⟨g0, j, none⟩ = some u) (hy : ∀ u ∈ news, u.oneCell' = true) (hn : n ≤ 1000000) (hbase : base ≤ w.heap.size)
    (h : ∀ g cap w', w'.ownsRow base e sz (.slice (some ⟨g, 0, none⟩) (n + 1) cap) (n + 1) (xs ++ news) → Mod v.ownBlock.toList w w' → (v.ownBlock = some g ∨ g = w.heap.size) → base ≤ g →
      wpList P ops Q rest (a.put o.dst (.slice (some ⟨g, 0, none⟩) (n + 1) cap)) w') : wpList P ops Q (o :: rest) a w := by
  obtain ⟨i, hi, hz, hs', hb⟩ := info_parts hinfo
  refine wpList_append_lies w hgd s x T ho base e i z sz bytes hT hi hz hs' hb hzc hsz v n xs hs hown ⟨g0, 0, none⟩ 1 1 news hx (by omega) ?_ hy (by omega) (by unfold maxLen; omega) ?_ hbase w.heap.size rfl ?_
  · intro j u hu
    have := hc j u hu
    have e1 : (⟨g0, 0, none⟩ : Addr).add j = ⟨g0, j, none⟩ := by
      unfold Addr.add
      by_cases z1 : j = 0 <;> simp [z1]
    rw [e1]
    exact this
  · have : (n + 1) * bytes ≤ 1000001 * 1000 := Nat.mul_le_mul (by omega) hby
    omega
  · intro g cap w' h1 h2 h3 h4
    exact h g cap w' h1 (mod_grown h2) h3 (by
      obtain ⟨_, h5 | ⟨g', cap', cur, he, hg, _⟩⟩ := h1
      · cases h5.1
      · cases he; exact hg)

theorem news1 {w : World} {g0 : Nat} {y : Value} (h : w.cell? ⟨g0, 0, none⟩ = some y) : ∀ (j : Nat) u, [y][j]? = some u → w.cell? ⟨g0, j, none⟩ = some u := by
  intro j u hj
  match j with
  | 0 => simp at hj; subst hj; exact h
  | j + 1 => simp at hj
theorem new_cell1 (W : World) (y : Value) (e : TypeId) (k : Nat) (hk : W.heap.size = k) : (W.alloc (.cells #[y] e)).cell? ⟨k, 0, none⟩ = some y := by subst hk; simp

/-- A callee that only reads, in a region that draws its order. -/
theorem quiet_ro {P : Program} {f : FuncId} {args : Array Value} {w : World} {n : Nat} {v : Value}
    (h : Calls P f args (w.drewN n) fun e w' => e = .returned v ∧ w.drewN n = w') : Calls P f args (w.drewN n) fun e w'' => e = .returned v ∧ ∃ m, w'' = w.drewN m :=
  h.mono fun _ _ ⟨he, hm⟩ => ⟨he, n, hm.symm⟩
theorem quiet_dr {P : Program} {f : FuncId} {args : Array Value} {w : World} {n : Nat} {v : Value}
    (h : Calls P f args (w.drewN n) fun e w' => e = .returned v ∧ ∃ m, w' = (w.drewN n).drewN m) : Calls P f args (w.drewN n) fun e w'' => e = .returned v ∧ ∃ m, w'' = w.drewN m :=
  h.mono fun _ _ ⟨he, m, hm⟩ => ⟨he, n + m, by rw [hm, World.drewN_drewN]⟩
end Go.Proofs.YtijjbkkcienfgaaDoor
