/- Words on memory that all walks of this seat use: what a call may have changed ('Mod'), what a block of cells holds ('Arr'). No condition. -/
import Derived.WalkKit
import Derived.Deep.QuietTactic
import Derived.BigQuiet
import Derived.WalkLawsBesides
import Derived.WalkSpells
import Derived.Deep.RegionHeld3
import Derived.Deep.DrawnRows
import Derived.Lib.Hide
namespace Go.Proofs.Ytdaapkbgfabmaaa
open Go.RowKit
set_option linter.unusedVariables false
set_option linter.unusedSimpArgs false

/-- All blocks that were there are as they were, but for those of S. -/
structure Mod (S : List Nat) (w w' : World) : Prop where
  os : w'.os = w.os
  tape : w'.tape = w.tape
  output : w'.output = w.output
  size : w.heap.size ≤ w'.heap.size
  block : ∀ k, k < w.heap.size → k ∉ S → w'.heap[k]? = w.heap[k]?

namespace Mod
variable {S T : List Nat} {w w' w'' : World}
theorem refl (S : List Nat) (w : World) : Mod S w w := ⟨rfl, rfl, rfl, Nat.le_refl _, fun _ _ _ => rfl⟩
theorem trans (h : Mod S w w') (k : Mod S w' w'') : Mod S w w'' :=
  ⟨k.os.trans h.os, k.tape.trans h.tape, k.output.trans h.output, Nat.le_trans h.size k.size, fun i hi hs => (k.block i (Nat.lt_of_lt_of_le hi h.size) hs).trans (h.block i hi hs)⟩
theorem mono (h : Mod S w w') (hs : ∀ x, x ∈ S → x ∈ T) : Mod T w w' := ⟨h.os, h.tape, h.output, h.size, fun k hk hn => h.block k hk (fun e => hn (hs _ e))⟩
theorem nil (h : Mod [] w w') : Mod S w w' := h.mono (by simp)
/-- What was changed was new, seen from an earlier world. -/
theorem fresh (h : Mod S w w') (k : Mod T w' w'') (hT : ∀ x, x ∈ T → x ∈ S ∨ w.heap.size ≤ x) : Mod S w w'' :=
  ⟨k.os.trans h.os, k.tape.trans h.tape, k.output.trans h.output, Nat.le_trans h.size k.size, fun i hi hs =>
    (k.block i (Nat.lt_of_lt_of_le hi h.size) (fun e => (hT i e).elim hs (fun hle => by omega))).trans (h.block i hi hs)⟩
theorem drew (h : Mod S w w') : Mod S w w'.drew := ⟨h.os, h.tape, h.output, h.size, h.block⟩
theorem drewN (h : Mod S w w') (n : Nat) : Mod S w (w'.drewN n) := ⟨h.os, h.tape, h.output, h.size, h.block⟩
theorem of_drew (h : Mod S w.drew w') : Mod S w w' := ⟨h.os, h.tape, h.output, h.size, h.block⟩
theorem of_drewN {n : Nat} (h : Mod S (w.drewN n) w') : Mod S w w' := ⟨h.os, h.tape, h.output, h.size, h.block⟩
theorem alloc (h : Mod S w w') (o : Obj) : Mod S w (w'.alloc o) :=
  h.trans ⟨rfl, rfl, rfl, by simp, fun k hk _ => Below.heap_alloc _ _ _ hk⟩
theorem setCell (h : Mod S w w') {p : Addr} (hp : p.block ∈ S ∨ w.heap.size ≤ p.block) (u : Value) : Mod S w (w'.setCell p u) :=
  h.fresh (T := [p.block]) ⟨rfl, rfl, rfl, by simp, fun k _ hs => Below.heap_setCell _ _ _ _ (by simpa using hs)⟩ (by simpa using hp)
theorem below (h : Mod S w w') {B : Nat} (hB : B ≤ w.heap.size) (hs : ∀ x, x ∈ S → B ≤ x) : Below B w w' :=
  ⟨h.os, h.tape, h.output, h.size, fun k hk => h.block k (by omega) (fun e => by have := hs k e; omega)⟩
theorem of_below (h : Below w.heap.size w w') : Mod S w w' := ⟨h.os, h.tape, h.output, h.size, fun k hk _ => h.block k hk⟩
theorem of_belowS {B : Nat} (h : Below B w w') (hs : ∀ x, B ≤ x → x < w.heap.size → x ∈ S) : Mod S w w' := ⟨h.os, h.tape, h.output, h.size, fun k hk hn => h.block k (by
  rcases Nat.lt_or_ge k B with h' | h'
  · exact h'
  · exact (hn (hs k h' hk)).elim)⟩
theorem cell (h : Mod S w w') {p : Addr} (hp : p.block < w.heap.size) (hs : p.block ∉ S) : w'.cell? p = w.cell? p := World.cell?_of_block (w := w) (h.block p.block hp hs)
theorem cell' (h : Mod S w w') {p : Addr} {v : Value} (hc : w.cell? p = some v) (hs : p.block ∉ S) : w'.cell? p = some v := (h.cell (World.block_lt_of_cell? w p hc) hs).trans hc
theorem frozen (h : Mod S w w') {p : Addr} (hp : p.block < w.heap.size) (hs : p.block ∉ S) : w'.frozen? p = w.frozen? p := World.frozen?_of_block (w := w) (h.block p.block hp hs)
theorem heap (h : Mod S w w') {k : Nat} {o : Obj} (hk : w.heap[k]? = some o) (hs : k ∉ S) : w'.heap[k]? = some o := (h.block k (lt_of_block hk) hs).trans hk
end Mod

/-- Beneath B nothing has changed: carried on by a 'Mod'. -/
theorem below_mod {B : Nat} {S : List Nat} {w0 w w' : World} (h : Below B w0 w) (k : Mod S w w') (hB : B ≤ w.heap.size) (hs : ∀ x, x ∈ S → B ≤ x) : Below B w0 w' := h.trans (k.below hB hs)

/-- Block b: N cells of type T; the i-th holds f i; none is frozen. -/
def Arr (w : World) (b : Nat) (T : TypeId) (N : Nat) (f : Nat → Value) : Prop :=
  ∃ cs : Array Value, w.heap[b]? = some (.cells cs T (0, 0)) ∧ cs.size = N ∧ ∀ i, i < N → cs[i]? = some (f i)

namespace Arr
variable {w w' : World} {b : Nat} {T : TypeId} {N : Nat} {f g : Nat → Value}
theorem lt (h : Arr w b T N f) : b < w.heap.size := let ⟨_, h1, _⟩ := h; lt_of_block h1
theorem cell (h : Arr w b T N f) (i : Nat) (hi : i < N) : w.cell? ⟨b, i, none⟩ = some (f i) := by
  obtain ⟨cs, h1, _, h3⟩ := h
  simp [World.cell?, h1, h3 i hi]
theorem free (h : Arr w b T N f) (i : Nat) : w.frozen? ⟨b, i, none⟩ = false := by
  obtain ⟨cs, h1, _, _⟩ := h
  simp [World.frozen?, h1]
theorem congr (h : Arr w b T N f) (e : ∀ i, i < N → f i = g i) : Arr w b T N g := by
  obtain ⟨cs, h1, h2, h3⟩ := h
  exact ⟨cs, h1, h2, fun i hi => by rw [h3 i hi, e i hi]⟩
theorem set (h : Arr w b T N f) (i : Nat) (v : Value) : Arr (w.setCell ⟨b, i, none⟩ v) b T N (fun j => if j = i then v else f j) := by
  obtain ⟨cs, h1, h2, h3⟩ := h
  refine ⟨cs.setIfInBounds i v, ?_, by simp [h2], fun j hj => ?_⟩
  · simp [World.setCell, Array.getElem?_modify, h1]
  · rw [Array.getElem?_setIfInBounds]
    by_cases e : j = i
    · subst e; rw [if_pos rfl, if_pos (by omega)]; simp
    · rw [if_neg (fun x => e x.symm), h3 j hj]; simp [e]
theorem other (h : Arr w b T N f) {p : Addr} (hp : p.block ≠ b) (v : Value) : Arr (w.setCell p v) b T N f := by
  obtain ⟨cs, h1, h2, h3⟩ := h
  exact ⟨cs, by rw [Below.heap_setCell _ _ _ _ (fun e => hp e.symm)]; exact h1, h2, h3⟩
theorem alloc (h : Arr w b T N f) (o : Obj) : Arr (w.alloc o) b T N f := by
  obtain ⟨cs, h1, h2, h3⟩ := h
  exact ⟨cs, by rw [Below.heap_alloc _ _ _ (lt_of_block h1)]; exact h1, h2, h3⟩
theorem drewN' (h : Arr w b T N f) (n : Nat) : Arr (w.drewN n) b T N f := h
theorem drew (h : Arr w b T N f) : Arr w.drew b T N f := h
theorem drewN (h : Arr w b T N f) (n : Nat) : Arr (w.drewN n) b T N f := h
theorem mod {S : List Nat} (h : Arr w b T N f) (m : Mod S w w') (hs : b ∉ S) : Arr w' b T N f := by
  obtain ⟨cs, h1, h2, h3⟩ := h
  exact ⟨cs, m.heap h1 hs, h2, h3⟩
theorem below {B : Nat} (h : Arr w b T N f) (m : Below B w w') (hb : b < B) : Arr w' b T N f := by
  obtain ⟨cs, h1, h2, h3⟩ := h
  exact ⟨cs, (m.block b hb).trans h1, h2, h3⟩
/-- A new block. -/
theorem new (w : World) (cs : Array Value) (T : TypeId) (f : Nat → Value) (hf : ∀ i, i < cs.size → cs[i]? = some (f i)) : Arr (w.alloc (.cells cs T)) w.heap.size T cs.size f :=
  ⟨cs, by show (w.heap.push _)[w.heap.size]? = _; simp, rfl, hf⟩
theorem new' (w : World) (cs : Array Value) (T : TypeId) (N : Nat) (f : Nat → Value) (hN : cs.size = N) (hf : ∀ i, i < N → cs[i]? = some (f i)) : Arr (w.alloc (.cells cs T)) w.heap.size T N f :=
  ⟨cs, by show (w.heap.push _)[w.heap.size]? = _; simp, hN, hf⟩
end Arr

theorem pw_drewN {B : Nat} {w W : World} (h : Below B w W) (n : Nat) : Below B w (W.drewN n) := ⟨h.os, h.tape, h.output, h.size, h.block⟩
theorem ret_int {k : IntKind} {a b : Int} (h : a = b) : Ending.returned (.int k a) = .returned (.int k b) := by rw [h]
theorem wr {n : Int} (h : -9223372036854775808 ≤ n) (h' : n ≤ 9223372036854775807) : wrap64 n = n := by unfold wrap64; omega
theorem max2_int (k : IntKind) (a b : Int) : (if a < b then Value.int k b else Value.int k a) = .int k (max a b) := by
  split <;> congr 1 <;> omega
/-- A callee that only reads, in a region that draws its order. -/
theorem quiet_ro {P : Program} {f : FuncId} {args : Array Value} {w : World} {n : Nat} {v : Value}
    (h : Calls P f args (w.drewN n) fun e w' => e = .returned v ∧ w.drewN n = w') : Calls P f args (w.drewN n) fun e w'' => e = .returned v ∧ ∃ m, w'' = w.drewN m :=
  h.mono fun _ _ ⟨he, hm⟩ => ⟨he, n, hm.symm⟩
theorem quiet_dr {P : Program} {f : FuncId} {args : Array Value} {w : World} {n : Nat} {v : Value}
    (h : Calls P f args (w.drewN n) fun e w' => e = .returned v ∧ ∃ m, w' = (w.drewN n).drewN m) : Calls P f args (w.drewN n) fun e w'' => e = .returned v ∧ ∃ m, w'' = w.drewN m :=
  h.mono fun _ _ ⟨he, m, hm⟩ => ⟨he, n + m, by rw [hm, World.drewN_drewN]⟩
end Go.Proofs.Ytdaapkbgfabmaaa
